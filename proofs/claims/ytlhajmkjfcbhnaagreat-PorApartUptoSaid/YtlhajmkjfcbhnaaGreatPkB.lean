/-
  Texts, joined: VjB, Enc, EncGood, GoodP, GdQ, VjIdx, VjTab, GdS, GdA, GdH, GdL.
-/
import Derived.Test.YtlhajmkjfcbhnaaGreatPkA
import Derived.Laws.BytesString
import Derived.ScopeJumps
import Derived.RangeFuncRecord
import Derived.IntWalk
import Derived.Test.YtlhajmkjfcbhnaaGreatProg
import Derived.KernelRfl
namespace Go.Proofs.YtlhajmkjfcbhnaaGreat
open Go.RowKit
section
structure Vj (nb:Bool) (ri:Nat->Option Nat) (rg:Nat->Nat->Option Nat) (E1:A0) (φ1:Phi) (E2:A0) (φ2:Phi):Prop where
 fz:∀ k,E2.fz k->E1.fz k
 br:nb=false->∀ k,E2.br k->E1.br k
 bx:∀ id i b,ri id=some i->φ1 id=some (.box b)->φ2 i=some (.box b)
 ar:∀ id i gen g c len hd,ri id=some i->rg id gen=some g->φ1 id=some (.arr c len hd)->gen<=c->∃ c2,φ2 i=some (.arr c2 len hd)/\g<=c2/\(g=c2->gen=c)
def FU (og:Nat->Nat):Pl->Pl
 | .box b=>.box b
 | .arr c n hd=>.arr (og c) n hd
theorem RU {og:Nat->Nat}{p:Pl}{k:Nat}:PlB (FU og p) k ↔ PlB p k:=by cases p<;>exact Iff.rfl
section
variable {w : World} {nb:Bool} {ri:Nat->Option Nat} {rg:Nat->Nat->Option Nat} {og:Nat->Nat} {E1 E2:A0} {φ1 φ2:Phi}
theorem F0 (h:Vj nb ri rg E1 φ1 E2 φ2):∀ (k:Nat) (x:VV) (v:Value),V w E1 (some φ1) x v->V w E2 (some φ2) (Lz nb ri rg k x) v
 | 0,_,_,_=>.dead
 | k+1,x,v,hv=>by
  have memc:∀ {x:VV},V w E1 (some φ1) x v->x.mem=true->V w E2 (some φ2) x v:=fun hv hm =>
   (hv.mem (E':=⟨E1.fz,E2.br,0,[]⟩) (m':=some φ2) hm rfl).less h.fz fun _ h=>h
  have rec':∀ (cs:List VV) (vs:Array Value),vs.size=cs.length->(∀ (j:Nat) x,cs[j]?=some x->V w E1 (some φ1) x (vs.getD j undef)) ->
    vs.size=(cs.map (Lz nb ri rg k)).length/\∀ (j:Nat) x,(cs.map (Lz nb ri rg k))[j]?=some x->V w E2 (some φ2) x (vs.getD j undef):=by
   intro cs vs h1 h2
   refine⟨by simp[h1],fun j x hx=>?_⟩
   rw[List.getElem?_map]at hx
   obtain⟨y,hy,rfl⟩:=Option.map_eq_some_iff.1 hx
   exact F0 h k y _ (h2 j y hy)
  cases x with
  | dead=>exact .dead
  | sc u=>exact memc hv rfl
  | nl=>exact memc hv rfl
  | er b=>exact memc hv rfl
  | sl fz n sz f =>
   cases fz with
   | true=>exact memc hv rfl
   | false =>
    cases nb with
    | true=>exact .dead
    | false=>exact(hv.lies (m':=some φ2) rfl).less h.fz (h.br rfl)
  | tp cs =>
   cases nb with
   | true=>exact .dead
   | false =>
    obtain⟨b,off,rfl,h1,h2,u,h3,h4⟩:=hv.tp_inv
    exact .tp u h1 (fun e=>h2 (h.br rfl _ e)) h3 fun j x hx=>(h4 j x hx).less h.fz (h.br rfl)
  | bp id off =>
   obtain⟨b,hb,rfl⟩:=hv.bp_inv
   simp only[Lz]
   cases hq:ri id with
   | none=>exact .dead
   | some i=>exact .bp (h.bx id i b hq hb)
  | ow id gen n =>
   obtain⟨c,len,hd,hd0,hph,hg,h0,hcur⟩:=hv.ow_inv
   simp only[Lz]
   cases hq:ri id with
   | none=>exact .dead
   | some i =>
    cases hq2:rg id gen with
    | none=>exact .dead
    | some g =>
     obtain⟨c2,a1,a2,a3⟩:=h.ar id i gen g c len hd hq hq2 hph hg
     exact .ow a1 a2 h0 fun e=>hcur (a3 e)
  | ep id gen sz r o =>
   obtain⟨c,len,hd,b,hph,hg,rfl,hcur⟩:=hv.ep_inv
   simp only[Lz]
   cases hq:ri id with
   | none=>exact .dead
   | some i =>
    cases hq2:rg id gen with
    | none=>exact .dead
    | some g =>
     obtain⟨c2,a1,a2,a3⟩:=h.ar id i gen g c len hd hq hq2 hph hg
     exact .ep a1 a2 fun e=>hcur (a3 e)
  | agg cs =>
   obtain⟨vs,rfl,h1,h2⟩:=hv.agg_inv
   obtain⟨g1,g2⟩:=rec' cs vs h1 h2
   exact .agg g1 g2
  | tup cs =>
   cases hv with | tup h1 h2 =>
   obtain⟨g1,g2⟩:=rec' cs _ h1 h2
   exact .tup g1 g2
  | fn g cs =>
   cases hv with | fn h1 h2 =>
   obtain⟨g1,g2⟩:=rec' cs _ h1 h2
   exact .fn g1 g2
theorem OF (h:Vj nb ri rg (E1.up φ1) φ1 (E2.up φ2) φ2){o:Ob}{p:Pl}(ho:ObV w E1 φ1 o p):ObV w E2 φ2 (Adv nb ri rg og o) (FU og p):=by
 cases o with
 | box cs =>
  cases p with
  | arr=>exact ho.elim
  | box b =>
   obtain⟨c,ty,h1,h2⟩:=ho
   refine⟨c,ty,h1,by simp[h2.1],fun j x hx=>?_⟩
   rw[List.getElem?_map]at hx
   obtain⟨y,hy,rfl⟩:=Option.map_eq_some_iff.1 hx
   exact F0 h _ y _ (h2.2 j y hy)
 | gone g =>
  cases p with
  | box b=>exact ho.elim
  | arr c n hd=>obtain⟨rfl,rfl⟩:=ho;exact⟨rfl,rfl⟩
 | kar g n sz k r f =>
  cases p with
  | box b=>exact ho.elim
  | arr c n' hd =>
   obtain⟨rfl,rfl,h1,h2⟩:=ho
   have frz:∀ {x:VV} {u:Value},Dx w E1 φ1 true x u->V w (E2.up φ2).hold none x u:=fun hu=>V.less hu h.fz fun _ h=>h
   refine⟨rfl,rfl,h1.both h2 (fun i _=>?_) fun i j x _ hx u hu hu'=>?_,h2.both h2 (fun _ _=>rfl) fun i j x _ hx u hu _=>frz (hu x hx)⟩
   ·by_cases hi:i=k
    ·subst hi;rw[DG,DG,List.length_map]
    ·rw[C2 hi,C2 hi]
   ·by_cases hi:i=k
    ·subst hi
     rw[DG]at hx hu
     rw[List.getElem?_map]at hx
     obtain⟨y,hy,rfl⟩:=Option.map_eq_some_iff.1 hx
     exact F0 h _ y _ (hu y hy)
    ·rw[C2 hi]at hx hu'
     exact Dx.held (fr:=true) (frz (hu' x hx))
 | arr fr g n sz f =>
  cases p with
  | box b=>exact ho.elim
  | arr c n' hd =>
   obtain⟨rfl,rfl,hrow⟩:=ho
   have key:∀ (f':Nat->List VV),(∀ i,i<n->(f' i).length=(f i).length)->(∀ (i j:Nat) (x:VV),i<n->(f' i)[j]?=some x->∀ u,(∀ y,(f i)[j]?=some y->Dx w E1 φ1 fr y u)->Dx w E2 φ2 fr x u)->GR w E2 φ2 fr n sz f' hd:=by
    intro f' hl hc
    match hd,hrow with
    | none,hrow=>exact hrow
    | some (b,cap),hrow =>
     obtain⟨cs,ty,h1,h2,h3,h4,h5,h6,h7⟩:=hrow
     exact⟨cs,ty,h1,h2,h3,h4,fun i hi=>(hl i hi).trans (h5 i hi),(by grind),h7⟩
   cases fr with
   | true=>exact⟨rfl,rfl,key f (fun _ _=>rfl) fun i j x _ hx u hu=>V.less (hu x hx) h.fz fun _ h=>h⟩
   | false =>
    refine⟨rfl,rfl,key _ (fun i hi=>by simp[EG,hi]) fun i j x hi hx u hu=>?_⟩
    simp only[EG,List.getD_eq_getElem?_getD,List.getElem?_map,List.getElem?_range hi,Option.map_some,Option.getD_some]at hx
    obtain⟨y,hy,rfl⟩:=Option.map_eq_some_iff.1 hx
    exact F0 h _ y _ (hu y hy)
end
theorem Eo : ∀ {ids:List Nat} {id j:Nat},idx ids id=some j->ids[j]?=some id
 | [],_,_,h=>by cases h
 | i::is,id,j,h=>by
  simp only[idx]at h
  cases hq:Nat.beq i id with
  | true =>
   rw[hq]at h
   simp only[cond_true,Option.some.injEq]at h
   grind [Nat.eq_of_beq_eq_true]
  | false =>
   rw[hq]at h
   simp only[cond_false,Option.map_eq_some_iff]at h
   obtain⟨j',hj,rfl⟩:=h
   have:=Eo hj
   simpa using this
theorem Ht {nx:Nat}:∀ {ids:List Nat},GY nx ids=true->∀ (j:Nat) id,ids[j]?=some id->id<nx
 | [],_,j,id,h=>by simp at h
 | i::is,hk,j,id,h=>by
  simp only[GY,Bool.and_eq_true]at hk
  match j,h with
  | 0,h=>simp_all
  | j+1,h=>exact Ht hk.2 j id h
theorem Pc {nx:Nat}:∀ {ids:List Nat},GY nx ids=true->∀ (j:Nat) id,ids[j]?=some id->idx ids id=some j
 | [],_,j,id,h=>by simp at h
 | i::is,hk,j,id,h=>by
  simp only[GY,Bool.and_eq_true]at hk
  match j,h with
  | 0,h=>simp only[List.getElem?_cons_zero,Option.some.injEq]at h;subst h;simp[idx]
  | j+1,h =>
   have h':is[j]?=some id:=h
   have hne:i≠id:=by grind [I2,Y6,List.mem_of_getElem?]
   simp only[idx,Bd hne,cond_false,Pc hk.2 j id h',Option.map_some]
theorem UI {ids:List Nat}{id:Nat}(h:idx ids id=none):∀ j:Nat,ids[j]?≠some id:=by
 intro j hj
 induction ids generalizing j with
 | nil=>simp at hj
 | cons i is ih =>
  simp only[idx]at h
  cases hq:Nat.beq i id with
  | true=>rw[hq]at h;cases h
  | false =>
   rw[hq]at h
   simp only[cond_false,Option.map_eq_none_iff]at h
   match j,hj with
   | 0,hj=>simp_all
   | j+1,hj=>exact ih h j hj
def P1 (ids:List Nat)(φ:Phi)(k:Nat):Prop:=∃ id,idx ids id=none/\Blk φ id k
def Em (ids:List Nat)(φ:Phi):Phi:=fun j=>(ids[j]?).bind fun id=>(φ id).map (FU fun _=>0)
section
variable {w : World} {E E':A0} {φ:Phi} {st:St} {ids:List Nat} {Hc:Nat->Ob}
theorem Ic {j:Nat}{p:Pl}(h:Em ids φ j=some p):∃ id q,ids[j]?=some id/\φ id=some q/\p=FU (fun _=>0) q:=by
 unfold Em at h
 grind [Option.map_eq_some_iff]
theorem Gy {j id:Nat}(h:ids[j]?=some id):Em ids φ j=(φ id).map (FU fun _=>0):=by unfold Em;rw[h];rfl
theorem JL {j k:Nat}:Blk (Em ids φ) j k ↔ ∃ id,ids[j]?=some id/\Blk φ id k:=by grind [A4,Ic,RU,Gy]
theorem Hv {k:Nat}:Own (Em ids φ) k ↔ ∃ (j:Nat) (id:Nat),ids[j]?=some id/\Blk φ id k :=
 ⟨fun⟨j,h⟩=>let ⟨id,h1,h2⟩:=JL.1 h;⟨j,id,h1,h2⟩,fun⟨j,id,h1,h2⟩=>⟨j,JL.2 ⟨id,h1,h2⟩⟩⟩
theorem Gq {k:Nat}:Own φ k ↔ P1 ids φ k∨Own (Em ids φ) k:=by
 rw[Hv]
 constructor
 ·rintro⟨id,h⟩
  cases hq:idx ids id with
  | none=>exact .inl ⟨id,hq,h⟩
  | some j=>exact .inr ⟨j,id,Eo hq,h⟩
 ·rintro(⟨id,_,h⟩ | ⟨j,id,_,h⟩)
  ·exact⟨id,h⟩
  ·exact⟨id,h⟩
theorem HRel.gen (h:HRel E Hc φ w){id c len:Nat}{hd:Option (Nat × Nat)}(e:φ id=some (.arr c len hd)):(Hc id).gen=c:=by
 have:=h.ob id _ e
 cases hq:Hc id with
 | box cs=>rw[hq]at this;exact this.elim
 | arr fr g n sz f=>rw[hq]at this;exact this.1
 | gone g=>rw[hq]at this;exact this.1
 | kar=>rw[hq]at this;exact this.1
theorem Ib (h:HRel E st.H φ w)(h1:∀ k,E'.fz k->E.fz k∨P1 ids φ k)(h2:∀ k,E'.br k->E.br k∨P1 ids φ k) :
  Vj false (idx ids) (Zd st) (E.up φ) φ (E'.up (Em ids φ)) (Em ids φ):=by
 refine⟨?_,fun _=>?_,fun id i b hi hb=>?_,fun id i gen g c len hd hi hg hph hgc=>?_⟩
 ·rintro k (hk1 | hk1)
  ·exact(h1 k hk1).imp (fun h=>h) fun h=>Gq.2 (.inl h)
  ·exact .inr (Gq.2 (.inr hk1))
 ·rintro k (hk1 | hk1)
  ·exact(h2 k hk1).imp (fun h=>h) fun h=>Gq.2 (.inl h)
  ·exact .inr (Gq.2 (.inr hk1))
 ·rw[Gy (Eo hi),hb];rfl
 ·have hgen:=h.gen hph
  unfold Zd at hg
  rw[hgen]at hg
  cases hq:Nat.beq gen c with
  | false=>rw[hq]at hg;cases hg
  | true =>
   rw[hq]at hg
   simp only[cond_true,Option.some.injEq]at hg
   subst hg
   exact⟨0,by rw[Gy (Eo hi),hph];rfl,Nat.le_refl _,fun _=>Nat.eq_of_beq_eq_true hq⟩
theorem HRel.lend (h:HRel E st.H φ w)(hk:GY st.nx ids=true)(h1:∀ k,E'.fz k->E.fz k∨P1 ids φ k)(h2:∀ k,E'.br k->E.br k∨P1 ids φ k)(h3:∀ k,E'.br k->E'.fz k){H':Nat->Ob}(hH:∀ (j id:Nat),ids[j]?=some id->H' j=I7 st ids id) :
  HRel E' H' (Em ids φ) w:=by
 refine⟨h3,fun j p e=>?_,fun i j k hi hj=>?_,fun k hk1 hf=>?_⟩
 ·obtain⟨id,q,e1,e2,rfl⟩:=Ic e
  rw[hH j id e1]
  exact OF (Ib h h1 h2) (h.ob id q e2)
 ·obtain⟨a,ha1,ha2⟩:=JL.1 hi
  obtain⟨b,hb1,hb2⟩:=JL.1 hj
  obtain rfl:=h.inj a b k ha2 hb2
  have e1:=Pc hk i a ha1
  have e2:=Pc hk j a hb1
  grind
 ·obtain⟨j,id,e1,e2⟩:=Hv.1 hk1
  rcases h1 k hf with hf | ⟨id',e3,e4⟩
  ·exact h.free k ⟨id,e2⟩ hf
  ·obtain rfl:=h.inj id id' k e2 e4
   exact UI e3 j e1
end
end
section
def PlK : Pl->Pl->Prop
 | .box b,q=>q=.box b
 | .arr _ _ _,q=>∃ c n hd,q=.arr c n hd
theorem PlK.refl (p:Pl):PlK p p:=by cases p with
 | box b=>rfl
 | arr c n hd=>exact⟨c,n,hd,rfl⟩
theorem PlK.trans {p q r:Pl}(h:PlK p q)(k:PlK q r):PlK p r:=by
 cases p with
 | box b=>simp only[PlK]at h;subst h;exact k
 | arr c n hd=>obtain⟨_,_,_,rfl⟩:=h;exact k
theorem HK.kind {p q:Pl}(h:HK p q):PlK p q:=by
 cases p with
 | box b=>exact h
 | arr c n hd=>obtain⟨c',n',hd',e,_⟩:=h;exact⟨c',n',hd',e⟩
structure Fr (b:Nat) (w:World) (φ:Phi) (w':World) (φ':Phi):Prop where
 os:w'.os=w.os
 tape:w'.tape=w.tape
 output:w'.output=w.output
 size:w.heap.size<=w'.heap.size
 block:∀ k,k<w.heap.size->¬ Own φ k->w'.heap[k]?=w.heap[k]?
 new:∀ k,Own φ' k->Own φ k∨w.heap.size<=k
 kind:∀ id p,id<b->φ id=some p->∃ p',φ' id=some p'/\PlK p p'
theorem Fr.refl (b:Nat)(w:World)(φ:Phi):Fr b w φ w φ:=⟨rfl,rfl,rfl,Nat.le_refl _,fun _ _ _=>rfl,fun _ h=>.inl h,fun _ p _ h=>⟨p,h,PlK.refl p⟩⟩
theorem Fr.of_ext {b:Nat}{w w':World}{φ φ':Phi}(h:Ext w φ w' φ'):Fr b w φ w' φ' :=
 ⟨h.os,h.tape,h.output,h.size,h.block,h.new,fun id p _ e=>let ⟨p',e',hp⟩:=h.up id p e;⟨p',e',hp.kind⟩⟩
theorem Fr.trans {b:Nat}{w w' w'':World}{φ φ' φ'':Phi}(h:Fr b w φ w' φ')(k:Fr b w' φ' w'' φ''):Fr b w φ w'' φ'' where
 os:=k.os.trans h.os
 tape:=k.tape.trans h.tape
 output:=k.output.trans h.output
 size:=Nat.le_trans h.size k.size
 block:=fun b hb hn=>(k.block b (Nat.lt_of_lt_of_le hb h.size) fun e=>by
  rcases h.new b e with e | e
  ·exact hn e
  ·omega).trans (h.block b hb hn)
 new:=fun b e=>by
  rcases k.new b e with e | e
  ·exact h.new b e
  ·exact .inr (Nat.le_trans h.size e)
 kind:=fun id p hb e=>by
  obtain⟨q,e1,h1⟩:=h.kind id p hb e
  obtain⟨r,e2,h2⟩:=k.kind id q hb e1
  exact⟨r,e2,h1.trans h2⟩
def PN (P:Program)(f:FuncId):Prop:=∃ fn,P.funcs[f]?=some fn/\fn.body.isNone=false/\(fn.name == "runtime.NumGoroutine")=false
def CG (hs:List Ob):Nat->Ob:=fun id=>hs.getD id (.gone 0)
structure Al (P:Program) (f:FuncId) (hs:List Ob) (xs:List VV) (hs':List Ob) (r:VV):Prop where
 callable:PN P f
 call:∀ (w:World) (E:A0) (φ:Phi) (vs:Array Value),Old E φ w->HRel E (CG hs) φ w->(∀ id,φ id≠none ↔ id<hs.length)->DM w (E.up φ) (some φ) xs vs ->
  Calls P f vs w fun e w'=>∃ v φ',e=.returned v/\HRel E (CG hs') φ' w'/\Fr hs.length w φ w' φ'/\(∀ id,φ' id≠none ↔ id<hs'.length)/\V w' (E.up φ') (some φ') r v
def Iz (P:Program)(O:Orc):Prop:=∀ f hs xs,(∀ p∈(O.run f hs xs).2,p)->Al P f hs xs (O.run f hs xs).1.1 (O.run f hs xs).1.2
theorem Py {nb:Bool}{st:St}{ids:List Nat}:∀ {os:List Ob} {j0 j:Nat},(GH nb st ids j0 os)[j]?=(os[j]?).map (Sy nb st ids (j0+j))
 | [],_,_=>by simp[GH]
 | o::os,j0,0=>by simp[GH]
 | o::os,j0,j+1=>by
  simp only[GH,List.getElem?_cons_succ]
  rw[Py,show j0+1+j=j0+(j+1) by omega]
theorem JS {nb:Bool}{st:St}{ids:List Nat}:∀ {os:List Ob} {j0:Nat},(GH nb st ids j0 os).length=os.length
 | [],_=>rfl
 | o::os,j0=>by simp[GH,JS]
def Dg (P:Program)(E:A0)(φ:Phi)(nx:Nat)(obs:List Ob)(x:VV)(o:Oper)(a:Act)(w:World):Prop :=
 ∀ (K:Act->World->Prop) (Q:Exit->Act->World->Prop),(∀ v w' pls,EL w E φ nx obs pls w'->V w' (E.up (addP φ nx pls)) (some (addP φ nx pls)) x v->K (a.put o.dst v) w')->o.wp P a w K Q
theorem Dg.of {P:Program}{E:A0}{φ:Phi}{nx:Nat}{obs:List Ob}{x:VV}{a:Act}{w:World}{o:Oper}{S:Sem Value}(he:execOp a.eval o=(do pure (.value (← S)):Sem Next))
  (h:∃ v w' pls,S.run P w=.ok v w'/\EL w E φ nx obs pls w'/\V w' (E.up (addP φ nx pls)) (some (addP φ nx pls)) x v):Dg P E φ nx obs x o a w:=by
 obtain⟨v,w',pls,hr,h1,h2⟩:=h
 intro K Q hK
 unfold Oper.wp
 rw[he,Sem.run_bind,hr]
 exact hK v w' pls h1 h2
theorem Dg.quiet {P:Program}{E:A0}{φ:Phi}{nx:Nat}{x:VV}{a:Act}{w:World}{o:Oper}{S:Sem Value}(he:execOp a.eval o=(do pure (.value (← S)):Sem Next))
  (h:∃ v,S.run P w=.ok v w/\V w (E.up φ) (some φ) x v):Dg P E φ nx [] x o a w:=by
 obtain⟨v,hr,h2⟩:=h
 exact Dg.of he ⟨v,w,[],hr,EL.none (Below.refl _ _),by rw[FO];exact h2⟩
section
variable {P : Program} {T:TypeId->TE} {O:Orc} {w:World} {E:A0} {φ:Phi} {st:St} {Hc:Nat->Ob} {a:Act}
theorem Yf {o:Oper}{c:Call}{f:Operand}{g:FuncId}{vs:Array Value}(ho:o.op=.call c)(hf:c.callee=.value f)(hv:a.eval f=.func (.func g) #[] vs)(hc:PN P g)
  {K:Act->World->Prop} {Q:Exit->Act->World->Prop} {R:Ending->World->Prop} (hcall:Calls P g (c.args.map a.eval++vs) w R) (hK:∀ e w',R e w'->∃ v,e=.returned v/\K (a.put o.dst v) w'):o.wp P a w K Q:=by
 obtain⟨fn,hfn,hb,hnm⟩:=hc
 have hrun:(execOp a.eval o).run P w=.ok (.enter g (c.args.map a.eval++vs)) w:=by
  unfold execOp
  rw[ho]
  simp only[resolve,hf,hv,Deferred.ofValue,Sem.run_bind,Sem.run_pure,Result.andThen_ok,invoke,callFunc,run_program,hfn,hnm,hb,Bool.false_eq_true,if_false,Array.empty_append]
 unfold Oper.wp
 rw[hrun,Oper.upon_enter]
 refine hcall.mono ?_
 grind
theorem Ahg {c:Call}{caps:List VV}{vs:Array Value}{R:VV->Value->Prop}(h2:∀ y∈c.args.toList,R (st.val y) (a.eval y))(e1:vs.size=caps.length)(e2:∀ (j:Nat) x,caps[j]?=some x->R x (vs.getD j undef)) :
  (c.args.map a.eval++vs).size=(c.args.toList.map st.val++caps).length/\∀ (j:Nat) x,(c.args.toList.map st.val++caps)[j]?=some x->R x ((c.args.map a.eval++vs).getD j undef):=by
 refine⟨by simp[e1],fun j x hx=>?_⟩
 by_cases hj:j<c.args.size
 ·rw[List.getElem?_append_left (by simpa using hj)]at hx
  rw[List.getElem?_map]at hx
  obtain⟨z,hz,rfl⟩:=Option.map_eq_some_iff.1 hx
  have:=h2 z (List.mem_of_getElem? hz)
  have hz':c.args[j]=z:=by grind
  have e:(c.args.map a.eval++vs).getD j undef=a.eval z:=by
   simp[Array.getD,hj,hz',show j<c.args.size+vs.size by omega]
  rw[e];exact this
 ·rw[List.getElem?_append_right (by simp;omega)]at hx
  have:=e2 _ x hx
  have hjl:=(List.getElem?_eq_some_iff.1 hx).1
  simp at hjl this
  have e:(c.args.map a.eval++vs).getD j undef=vs[j - c.args.size]'(by omega):=by
   simp[Array.getD,Array.getElem_append,hj,show j<c.args.size+vs.size by omega]
  grind
theorem Abs {ids:List Nat}{j g c:Nat}(h:g<=c):Hq st ids j g<=Hq st ids j c/\(Hq st ids j g=Hq st ids j c->g=c):=by
 unfold Hq
 grind
theorem Adu {og:Nat->Nat}(h:∀ g,og g=g)(p:Pl):FU og p=p:=by cases p<;>simp[FU,h]
theorem Acg {w':World}{φ2:Phi}{os:List Ob}{r:VV}{v:Value}{nx:Nat}(hnx:nx=st.nx)(hid:∀ i,i<os.length->φ (nx+i)=none)
  (h1:HRel (E.up φ).lend (CG os) φ2 w') (h2:Fr 0 w (fun _=>none) w' φ2) (h3:∀ id,φ2 id≠none ↔ id<os.length) (h4:V w' ((E.up φ).lend.up φ2) (some φ2) r v) :
  ∃ pls,EL w E φ nx (GH true st [] 0 os) pls w'/\V w' (E.up (addP φ nx pls)) (some (addP φ nx pls)) (Zq true st [] r) v:=by
 subst hnx
 let pls:List Pl:=(List.range os.length).map fun j=>(φ2 j).getD (.box 0)
 have hpls:∀ (j:Nat) p,pls[j]?=some p ↔ φ2 j=some p:=by
  intro j p
  show((List.range os.length).map fun j=>(φ2 j).getD (.box 0))[j]?=some p ↔ _
  rw[List.getElem?_map]
  by_cases hj:j<os.length
  ·obtain⟨q,hq⟩:=Option.ne_none_iff_exists'.1 ((h3 j).2 hj)
   simp[hj,hq]
  grind
 have hlen:pls.length=os.length:=by simp[pls]
 have hnone:∀ k,¬ Own (fun _=>none:Phi) k:=by
  rintro k ⟨id,hb⟩
  grind [A4]
 have hroom:Room w pls w':=by
  refine⟨⟨h2.os,h2.tape,h2.output,h2.size,fun k hk=>h2.block k hk (hnone k)⟩,fun i p k hi hb=>?_,fun i j p q k hi hj hpb hqb=>?_⟩
  ·exact(h2.new k ⟨i,A4.2 ⟨p,(hpls i p).1 hi,hb⟩⟩).resolve_left (hnone k)
  ·exact h1.inj i j k (A4.2 ⟨p,(hpls i p).1 hi,hpb⟩) (A4.2 ⟨q,(hpls j q).1 hj,hqb⟩)
 have hid':∀ i,i<pls.length->φ (st.nx+i)=none:=(by grind)
 have hrel:Vj true (fun j=>some (FV st [] j)) (fun j g=>some (Hq st [] j g)) ((E.up φ).lend.up φ2) φ2 (E.up (addP φ st.nx pls)) (addP φ st.nx pls):=by
  have hout:∀ j,FV st [] j=st.nx+j:=fun j=>by simp[FV]
  refine⟨?_,fun e=>Bool.noConfusion e,fun id i b hi hb=>?_,fun id i gen g c len hd hi hg hph hgc=>?_⟩
  ·rintro k (hk | hk)
   ·exact .inl (.inl hk)
   ·rcases(hroom.own hid').1 hk with hk | ⟨i,p,hi,hb⟩
    ·exact .inl (.inr hk)
    ·exact .inr ⟨i,A4.2 ⟨p,(hpls i p).1 hi,hb⟩⟩
  ·simp only[Option.some.injEq]at hi
   rw[← hi,hout]
   exact F3 ((hpls id _).2 hb)
  ·simp only[Option.some.injEq]at hi hg
   rw[← hi,hout]
   have hg':g=gen:=by rw[← hg];rfl
   subst hg'
   exact⟨c,F3 ((hpls id _).2 hph),hgc,fun e=>e⟩
 refine⟨pls,⟨hroom,by rw[hlen,JS],fun i o p hi hp=>?_⟩,F0 hrel _ _ _ h4⟩
 rw[Py]at hi
 obtain⟨o',ho',rfl⟩:=Option.map_eq_some_iff.1 hi
 have hob:=h1.ob i p ((hpls i p).1 hp)
 have hoo:CG os i=o':=by simp[CG,ho']
 rw[hoo]at hob
 have:=OF (og:=Hq st [] (0+i)) hrel hob
 rw[Adu (og:=Hq st [] (0+i)) fun g=>rfl]at this
 exact this
end
end
section
section
variable {P : Program} {T:TypeId->TE} {O:Orc} {w:World} {E:A0} {φ:Phi} {st:St} {Hc:Nat->Ob} {a:Act} {ids:List Nat}
def Nm (E:A0)(ids:List Nat)(φ:Phi):A0:=⟨fun k=>E.fz k∨P1 ids φ k,fun k=>E.br k∨P1 ids φ k,0,[]⟩
def FM (st:St)(ids:List Nat)(n:Nat)(φ φ2:Phi):Phi:=fun k =>
 match idx ids k with
 | some j=>(φ2 j).map (FU (Hq st ids j))
 | none=>if st.nx<=k/\k<st.nx+(n - ids.length) then(φ2 (k - st.nx+ids.length)).map (FU (Hq st ids (k - st.nx+ids.length))) else φ k
theorem LH {j id:Nat}(h:ids[j]?=some id):FV st ids j=id:=by unfold FV;rw[h]
theorem O4 {j:Nat}(h:ids.length<=j):FV st ids j=st.nx+(j - ids.length):=by
 unfold FV
 rw[List.getElem?_eq_none h]
theorem Ail (hk:GY st.nx ids=true){k:Nat}(h:st.nx<=k):idx ids k=none:=by
 cases hq:idx ids k with
 | none=>rfl
 | some j=>have:=Ht hk j k (Eo hq);omega
theorem AfN (hk:GY st.nx ids=true){n j:Nat}{φ2:Phi}(hj:j<n):FM st ids n φ φ2 (FV st ids j)=(φ2 j).map (FU (Hq st ids j)):=by
 unfold FM
 rcases Nat.lt_or_ge j ids.length with h | h
 ·have e:ids[j]?=some ids[j]:=List.getElem?_eq_getElem h
  rw[LH e,Pc hk j _ e]
 ·rw[O4 h,Ail hk (by omega)]
  grind
theorem Rp {n k:Nat}{φ2:Phi}{p:Pl}(h:FM st ids n φ φ2 k=some p) :
  (∃ j q,k=FV st ids j/\φ2 j=some q/\p=FU (Hq st ids j) q)∨(idx ids k=none/\φ k=some p/\¬ (st.nx<=k/\k<st.nx+(n - ids.length))):=by
 unfold FM at h
 cases hq:idx ids k with
 | some j =>
  rw[hq]at h
  obtain⟨q,e1,e2⟩:=Option.map_eq_some_iff.1 h
  exact .inl ⟨j,q,(LH (Eo hq)).symm,e1,e2.symm⟩
 | none =>
  grind [Option.map_eq_some_iff,O4]
theorem Acf (hH:HRel E st.H φ w)(hfr:∀ id,st.nx<=id->φ id=none)(hlv:∀ id,id<st.nx->φ id≠none)(hk:GY st.nx ids=true){w':World}{φ2:Phi}{os:List Ob}{r:VV}{v:Value}(hlen:ids.length<=os.length)
  (h1:HRel (Nm E ids φ) (CG os) φ2 w') (h2:Fr ids.length w (Em ids φ) w' φ2) (h3:∀ id,φ2 id≠none ↔ id<os.length) (h4:V w' ((Nm E ids φ).up φ2) (some φ2) r v) {H':Nat->Ob} (hH':∀ j,j<os.length->H' (FV st ids j)=Sy false st ids j (CG os j))
  (hH'':∀ k,k<st.nx->idx ids k=none->H' k=st.H k) :
  ∃ φ',HRel E H' φ' w'/\Ext w φ w' φ'/\(∀ id,φ' id≠none ↔ φ id≠none∨(st.nx<=id/\id<st.nx+(os.length - ids.length)))/\V w' (E.up φ') (some φ') (Zq false st ids r) v:=by
 refine⟨FM st ids os.length φ φ2,?_⟩
 have hat:∀ {j:Nat},j<os.length->FM st ids os.length φ φ2 (FV st ids j)=(φ2 j).map (FU (Hq st ids j)):=fun hj=>AfN hk hj
 have hlt2:∀ {j:Nat} {q:Pl},φ2 j=some q->j<os.length:=fun e=>(h3 _).1 (by rw[e];simp)
 have hltφ:∀ {k:Nat} {p:Pl},φ k=some p->k<st.nx:=by grind
 have hblk:∀ {i k:Nat},Blk (FM st ids os.length φ φ2) i k->(∃ j,i=FV st ids j/\j<os.length/\Blk φ2 j k)∨(idx ids i=none/\Blk φ i k):=by
  intro i k hb
  obtain⟨p,hp,hpb⟩:=A4.1 hb
  rcases Rp hp with⟨j,q,e1,e2,rfl⟩ | ⟨e1,e2,_⟩
  ·grind [A4,RU]
  grind [A4]
 have hblk':∀ {j k:Nat},Blk φ2 j k->Blk (FM st ids os.length φ φ2) (FV st ids j) k:=by grind [A4,RU]
 have hblk'':∀ {i k:Nat},idx ids i=none->Blk φ i k->Blk (FM st ids os.length φ φ2) i k:=by
  intro i k hi hb
  obtain⟨p,hp,hpb⟩:=A4.1 hb
  have:=hltφ hp
  refine A4.2 ⟨p,?_,hpb⟩
  unfold FM
  grind
 have apart:∀ {j i k:Nat},Blk φ2 j k->idx ids i=none->Blk φ i k->False:=fun h5 h6 h7=>h1.free _ ⟨_,h5⟩ (.inr ⟨_,h6,h7⟩)
 have hown:∀ {k:Nat},Own (FM st ids os.length φ φ2) k ↔ Own φ2 k∨P1 ids φ k:=by
  intro k
  constructor
  ·rintro⟨i,hb⟩
   rcases hblk hb with⟨j,_,_,hb⟩ | ⟨hi,hb⟩
   ·exact .inl ⟨j,hb⟩
   ·exact .inr ⟨i,hi,hb⟩
  ·rintro(⟨j,hb⟩ | ⟨i,hi,hb⟩)
   ·exact⟨_,hblk' hb⟩
   ·exact⟨i,hblk'' hi hb⟩
 have hrel:Vj false (fun j=>some (FV st ids j)) (fun j g=>some (Hq st ids j g)) ((Nm E ids φ).up φ2) φ2 (E.up (FM st ids os.length φ φ2)) (FM st ids os.length φ φ2):=by
  refine⟨?_,fun _=>?_,fun id i b hi hb=>?_,fun id i gen g c len hd hi hg hph hgc=>?_⟩
  ·rintro k (hk1 | hk1)
   ·exact .inl (.inl hk1)
   ·rcases hown.1 hk1 with h | h
    ·exact .inr h
    ·exact .inl (.inr h)
  ·rintro k (hk1 | hk1)
   ·exact .inl (.inl hk1)
   ·rcases hown.1 hk1 with h | h
    ·exact .inr h
    ·exact .inl (.inr h)
  ·simp only[Option.some.injEq]at hi
   rw[← hi,hat (hlt2 hb),hb];rfl
  ·simp only[Option.some.injEq]at hi hg
   subst hi;subst hg
   obtain⟨m1,m2⟩:=Abs (st:=st) (ids:=ids) (j:=id) hgc
   exact⟨_,by rw[hat (hlt2 hph),hph];rfl,m1,m2⟩
 have hext:Ext w φ w' (FM st ids os.length φ φ2):=by
  refine⟨h2.os,h2.tape,h2.output,h2.size,fun k hk1 hn=>h2.block k hk1 fun h=>hn (Gq.2 (.inr h)),fun id p e=>?_,fun k hk1=>?_⟩
  ·cases hq:idx ids id with
   | none =>
    have:=hltφ e
    refine⟨p,?_,HK.refl p⟩
    unfold FM
    grind
   | some j =>
    have hj:=Eo hq
    have hjl:j<ids.length:=(List.getElem?_eq_some_iff.1 hj).1
    obtain⟨p2,e2,hp2⟩:=h2.kind j (FU (fun _=>0) p) hjl (by rw[Gy hj,e];rfl)
    refine⟨FU (Hq st ids j) p2,?_,?_⟩
    ·grind [LH]
    ·cases p with
     | box b=>simp only[FU,PlK]at hp2;subst hp2;rfl
     | arr c n hd =>
      obtain⟨c',n',hd',rfl⟩:=hp2
      have hg:=hH.gen e
      have:Hq st ids j c'=c+1+c':=by unfold Hq;rw[hj];simp only[hg]
      exact⟨_,_,_,rfl,by omega,fun e'=>by omega⟩
  ·rcases hown.1 hk1 with h | ⟨i,hi,hb⟩
   ·exact(h2.new k h).imp (fun h=>Gq.2 (.inr h)) fun h=>h
   ·exact .inl ⟨i,hb⟩
 refine⟨⟨hH.sub,fun k p e=>?_,fun i j k hi hj=>?_,fun k hk1 hf=>?_⟩,hext,fun id=>?_,F0 hrel _ _ _ h4⟩
 ·rcases Rp e with⟨j,q,rfl,e2,rfl⟩ | ⟨e1,e2,_⟩
  ·rw[hH' j (hlt2 e2)]
   exact OF hrel (h1.ob j q e2)
  ·rw[hH'' k (hltφ e2) e1]
   refine(hH.ob k p e2).ext hext fun b hb hlt=>h2.block b hlt ?_
   intro ho
   obtain⟨j,id',a1,a2⟩:=Hv.1 ho
   have:=hH.inj k id' b (A4.2 ⟨p,e2,hb⟩) a2
   grind [UI]
 ·rcases hblk hi with⟨i',rfl,_,hb1⟩ | ⟨hi1,hb1⟩<;>rcases hblk hj with⟨j',rfl,_,hb2⟩ | ⟨hj1,hb2⟩
  ·rw[h1.inj i' j' k hb1 hb2]
  ·grind
  ·grind
  ·exact hH.inj i j k hb1 hb2
 ·rcases hown.1 hk1 with h | ⟨i,hi,hb⟩
  ·exact h1.free k h (.inl hf)
  ·exact hH.free k ⟨i,hb⟩ hf
 ·constructor
  ·intro hn
   cases hq:idx ids id with
   | some j=>exact .inl (hlv id (Ht hk j id (Eo hq)))
   | none =>
    unfold FM at hn
    grind
  ·intro hn
   unfold FM
   cases hq:idx ids id with
   | some j =>
    have hj:=Eo hq
    have hjl:j<ids.length:=(List.getElem?_eq_some_iff.1 hj).1
    have:=(h3 j).2 (by omega)
    simpa using this
   | none =>
    simp only
    split
    ·have:=(h3 (id - st.nx+ids.length)).2 (by omega)
     simpa using this
    grind
theorem Ah1 (hO:Iz P O)(hH:HRel E Hc φ w)(hHc:∀ id,id<st.nx->Hc id=st.H id)(hz:Old E φ w){o:Oper}{c:Call}{f:Operand}(ho:o.op=.call c)(hf:c.callee=.value f)
  (h1:V w (E.up φ) (some φ) (st.val f) (a.eval f)) (h2:∀ y∈c.args.toList,V w (E.up φ) (some φ) (st.val y) (a.eval y)) (hc:∀ p∈(Hd O st (st.val f) (c.args.toList.map st.val)).chk,p) :
  ((Hd O st (st.val f) (c.args.toList.map st.val)).put=none/\((∀ i,i<(Hd O st (st.val f) (c.args.toList.map st.val)).new.length->φ (st.nx+i)=none) ->
    Dg P E φ st.nx (Hd O st (st.val f) (c.args.toList.map st.val)).new (Hd O st (st.val f) (c.args.toList.map st.val)).val o a w)) ∨
  (∃ H',(Hd O st (st.val f) (c.args.toList.map st.val)).put=some H'/\((∀ id,st.nx<=id->φ id=none)->(∀ id,id<st.nx->φ id≠none)->HRel E st.H φ w ->
    Yc P E φ (GQ H' st.nx (Hd O st (st.val f) (c.args.toList.map st.val)).new) st.nx (st.nx+(Hd O st (st.val f) (c.args.toList.map st.val)).new.length) (Hd O st (st.val f) (c.args.toList.map st.val)).val o a w)):=by
 generalize hx:st.val f=x at *
 unfold Hd at hc ⊢
 cases hask:Af4 O.lend st x (c.args.toList.map st.val) with
 | none=>simp_all [Am]
 | some q =>
  obtain⟨g,ids,hs,xs⟩:=q
  rw[hask]at hc
  simp only at hc ⊢
  unfold Af4 at hask
  split at hask
  ·rename_i g' caps
   generalize hv:a.eval f=vf at h1
   cases h1 with | fn e1 e2 =>
   rename_i vs
   obtain⟨l1,l2⟩:=Ahg (c:=c) (st:=st) (a:=a) (R:=V w (E.up φ) (some φ)) h2 e1 e2
   cases hld:O.lend g' with
   | false =>
    rw[hld]at hask
    simp only[cond_false]at hask
    split at hask
    ·rename_i xs' hsn
     simp only[Option.some.injEq,Prod.mk.injEq]at hask
     obtain⟨rfl,rfl,rfl,rfl⟩:=hask
     generalize hrun:O.run g' [] xs'=q at hc ⊢
     obtain⟨⟨os,r⟩,ck⟩:=q
     simp only[hld]at hc ⊢
     have hb:DN st false [] os r={ val:=Zq true st [] r,new:=GH true st [] 0 os,put:=none }:=by simp[DN,Nat.ble]
     rw[hb]at hc ⊢
     refine .inl ⟨rfl,fun hid=>?_⟩
     simp only[Res.also,List.nil_append]at hc hid ⊢
     have hsp:=hO g' [] xs' (by rw[hrun];exact hc)
     rw[hrun]at hsp
     obtain⟨m1,m2⟩:=Dd hsn
     have hHlt:∀ {k:Nat},Own φ k->k<w.heap.size:=fun h=>hH.lt h
     have hnil:Em [] φ=fun _=>none:=by funext j;simp[Em]
     have hHc':HRel ((E.up φ).lend) (CG []) (Em [] φ) w:=by
      refine⟨fun k h=>h.elim,fun j p e=>?_,fun i j k h=>?_,fun k h=>?_⟩
      ·rw[hnil]at e;cases e
      ·grind [A4]
      ·rw[hnil]at h;obtain⟨j,h⟩:=h;grind [A4]
     have hcall:=hsp.call w (E.up φ).lend (Em [] φ) (c.args.map a.eval++vs) ⟨(by
       rintro k (hk | hk)
       ·exact hz.lt k hk
       ·exact hHlt hk),hz.lib.at',hz.lib.lt,fun k _ ho=>by rw[hnil]at ho;obtain⟨j,ho⟩:=ho;grind [A4]⟩ hHc' (fun id=>by rw[hnil];simp) ⟨by rw[l1,m1],fun j y hy=>by
       obtain⟨x,hx,hxy⟩:=m2 j y hy
       have:=Ou (H:=st.Hg) hH (fun id=>by
        unfold St.Hg
        cases hq:Nat.blt id st.nx with
        | false=>exact .inl rfl
        | true=>simp_all) _ x y _ (l2 j x hx) hxy
       refine(this.held (m:=some (Em [] φ))).less ?_ ?_
       ·rintro k (hk | hk)
        ·exact hk
        ·rw[hnil]at hk;obtain⟨j,h⟩:=hk;grind [A4]
       ·rintro k (hk | hk)
        ·exact hk
        ·rw[hnil]at hk;obtain⟨j,h⟩:=hk;grind [A4]⟩
     intro K Q hK
     refine Yf ho hf hv hsp.callable hcall ?_
     rintro e w' ⟨v,φ2,rfl,k1,k2,k3,k4⟩
     refine⟨v,rfl,?_⟩
     rw[hnil]at k2
     obtain⟨pls,n1,n2⟩:=Acg (st:=st) rfl (fun i hi=>hid i (by rw[JS];exact hi)) k1 k2 k3 k4
     exact hK v w' pls n1 n2
    ·cases hask
   | true =>
    rw[hld]at hask
    simp only[cond_true]at hask
    generalize OI st 64 ((c.args.toList.map st.val++caps).flatMap (Hl 8)) []=is at hask
    cases hok:GY st.nx is with
    | false=>rw[hok]at hask;cases hask
    | true =>
     rw[hok]at hask
     simp only[cond_true,Option.some.injEq,Prod.mk.injEq]at hask
     obtain⟨rfl,rfl,rfl,rfl⟩:=hask
     generalize hrun:O.run g' (is.map (I7 st is)) ((c.args.toList.map st.val++caps).map (UE st is))=q at hc ⊢
     obtain⟨⟨os,r⟩,ck⟩:=q
     simp only[hld]at hc ⊢
     unfold DN at hc ⊢
     cases hle:Nat.ble is.length os.length with
     | false=>rw[hle]at hc;exact(hc False (by simp[Res.bad,Res.also])).elim
     | true =>
      rw[hle]at hc
      simp only[cond_true,Bool.not_true]at hc ⊢
      have hlen:=Nat.le_of_ble_eq_true hle
      refine .inr ⟨_,rfl,fun hfr hlv hHs=>?_⟩
      simp only[Res.also,List.nil_append]at hc ⊢
      have hsp:=hO g' _ _ (by rw[hrun];exact hc)
      rw[hrun]at hsp
      have hE1:∀ k,(Nm E is φ).fz k->E.fz k∨P1 is φ k:=fun _ h=>h
      have hE2:∀ k,(Nm E is φ).br k->E.br k∨P1 is φ k:=fun _ h=>h
      have hHc':=hHs.lend (E':=Nm E is φ) hok hE1 hE2 (fun k h=>h.imp (hHs.sub k) fun h=>h) (H':=CG (is.map (I7 st is))) (fun j id e=>by simp[CG,e])
      have hrl:=Ib (E':=Nm E is φ) hHs hE1 hE2
      have hcall:=hsp.call w (Nm E is φ) (Em is φ) (c.args.map a.eval++vs) ⟨(by
        rintro k (hk | ⟨id,_,hk⟩)
        ·exact hz.lt k hk
        ·exact hHs.lt ⟨id,hk⟩),hz.lib.at',hz.lib.lt,fun k hk ho=>hz.lib.out k hk ((Hv.1 ho).elim fun _ h=>h.elim fun id h=>⟨id,h.2⟩)⟩ hHc' (fun j=>by
        rw[List.length_map]
        constructor
        ·intro h
         obtain⟨p,hp⟩:=Option.ne_none_iff_exists'.1 h
         grind [Ic,List.getElem?_eq_some_iff]
        ·intro h
         have e1:is[j]?=some is[j]:=List.getElem?_eq_getElem h
         rw[Gy e1]
         have:=hlv _ (Ht hok j _ e1)
         simpa using this) ⟨by rw[l1];simp,fun j y hy=>by
        rw[List.getElem?_map]at hy
        obtain⟨x,hx,rfl⟩:=Option.map_eq_some_iff.1 hy
        exact F0 hrl _ _ _ (l2 j x hx)⟩
      intro K Q hK
      refine Yf ho hf hv hsp.callable hcall ?_
      rintro e w' ⟨v,φ2,rfl,k1,k2,k3,k4⟩
      refine⟨v,rfl,?_⟩
      rw[List.length_map]at k2
      have hnl:((GH false st is 0 os).drop is.length).length=os.length - is.length:=by rw[List.length_drop,JS]
      obtain⟨φ',p1,p2,p3,p4⟩:=Acf hHs hfr hlv hok hlen k1 k2 k3 k4 (H':=GQ (fun k=>match idx is k with
       | some j=>(GH false st is 0 os).getD j (.gone 0)
       | none=>st.H k) st.nx ((GH false st is 0 os).drop is.length)) (fun j hj=>by
        have hoj:os[j]?=some os[j]:=List.getElem?_eq_getElem hj
        have hbj:(GH false st is 0 os)[j]?=some (Sy false st is j (CG os j)):=by
         rw[Py,Nat.zero_add,hoj];simp[CG,hoj]
        rcases Nat.lt_or_ge j is.length with h | h
        ·have e:is[j]?=some is[j]:=List.getElem?_eq_getElem h
         rw[LH e,Jn (.inl (Ht hok j _ e)),Pc hok j _ e]
         grind
        grind [O4,Zt]) (fun k hk hi=>by rw[Jn (.inl hk),hi])
      grind
  ·cases hask
end
end
section
section
variable {P : Program} {T:TypeId->TE} {O:Orc} {w:World} {E:A0} {φ:Phi} {st:St} {Hc:Nat->Ob} {a:Act}
def AfS (w:World)(E:A0)(φ:Phi)(st:St)(a:Act):Op->Prop
 | .pick c x y=>V w (E.up φ) (some φ) (st.val c) (a.eval c)/\(a.eval c=.bool true->V w (E.up φ) (some φ) (st.val x) (a.eval x))/\(a.eval c=.bool false->V w (E.up φ) (some φ) (st.val y) (a.eval y))
 | op=>∀ y∈op.operands.toList,V w (E.up φ) (some φ) (st.val y) (a.eval y)
theorem Ul {ps:Array (Nat × Operand)}(h:∀ y∈(ps.toList.map (·.2)),V w (E.up φ) (some φ) (st.val y) (a.eval y)) :
  (ps.toList.map fun p=>(p.1,st.val p.2)).length=(ps.map fun(i,x)=>(i,a.eval x)).toList.length/\∀ (j:Nat) p q,(ps.toList.map fun p=>(p.1,st.val p.2))[j]?=some p->(ps.map fun(i,x)=>(i,a.eval x)).toList[j]?=some q->p.1=q.1/\V w (E.up φ) (some φ) p.2 q.2:=by grind
theorem SS {xs:List VV}{ts:List TypeId}(hc:∀ p∈(Yr T xs ts).chk,p):∃ x t,xs=[x]/\ts=[t] :=
 match xs,ts,hc with
 | [x],[t],_=>⟨x,t,rfl,rfl⟩
 | [],_,hc=>Am hc
 | _::_::_,_,hc=>Am hc
 | [_],[],hc=>Am hc
 | [_],_::_::_,hc=>Am hc
theorem SU {xs:List VV}{ts:List TypeId}(hc:∀ p∈(Oe T st xs ts).chk,p):∃ x y t,xs=[x,y]/\ts=[t,t]:=by
 unfold Oe at hc
 split at hc
 ·rename_i x y t t'
  cases hq:Nat.beq t t' with
  | false=>simp_all [Am]
  | true=>simp_all
 ·exact Am hc
theorem Qb {b:Bool}{xs:List VV}(hc:∀ p∈(vmm b xs).chk,p):∃ k x y,xs=[.sc (.int k x),.sc (.int k y)]:=by
 unfold vmm at hc
 split at hc
 ·rename_i k x k' y
  cases hq:decide (k=k') with
  | false=>simp_all [Am]
  | true=>simp_all
 ·exact Am hc
theorem Vq {β:Type}{f:Operand->β}{args:Array Operand}{x y:β}(h:args.toList.map f=[x,y]):∃ u v,args=#[u,v]/\f u=x/\f v=y:=by
 have hl:args.toList.length=2:=by have:=congrArg List.length h;simpa using this
 match hm:args.toList,hl with
 | [u,v],_ =>
  grind
theorem Abd {t:TypeId}{n:Nat}{ps:List (Nat × VV)}:(Cr T st t n ps).put=none:=by
 unfold Cr
 split
 ·generalize (_&&_:Bool)=q
  cases q with
  | false=>rfl
  | true =>
   simp only[cond_true]
   split
   ·rename_i cs _
    cases cs.all VV.one<;>rfl
   ·rfl
 ·rfl
theorem Abx {t:TypeId}{n:Nat}{ps:List (Nat × VV)}(hc:∀ p∈(Cr T st t n ps).chk,p):(Cr T st t n ps).new.length≠0:=by
 revert hc
 unfold Cr
 split
 ·generalize (_&&_:Bool)=q
  cases q with
  | false=>intro hc;exact Am hc
  | true =>
   simp only[cond_true]
   split
   ·rename_i cs _
    cases cs.all VV.one with
    | false=>intro hc;exact Am hc
    | true=>intro _ h;cases h
   ·intro hc;exact Am hc
 ·intro hc;exact Am hc
theorem AdT {t:TypeId}{x y:VV}:(MY T st t x y).put=none:=by
 unfold MY
 split
 ·generalize (_&&_:Bool)=q;cases q<;>rfl
 ·rfl
theorem Abc {t:TypeId}{zx zy:VV}(hc:∀ p∈(G5 T st t zx zy).chk,p):∃ H',(G5 T st t zx zy).put=some H':=by
 revert hc
 unfold G5
 split
 ·rename_i id off
  generalize (_&&_:Bool)=q
  cases q with
  | false=>intro hc;exact Am hc
  | true =>
   simp only[cond_true]
   split
   ·cases Nat.ble (off+zy.cells.length) (List.length _) with
    | false=>intro hc;exact Am hc
    | true=>intro _;exact⟨_,rfl⟩
   ·intro hc;exact Am hc
 ·generalize (_&&_:Bool)=q
  cases q with
  | false=>intro hc;exact Am hc
  | true =>
   simp only[cond_true]
   split
   ·split
    ·generalize (_&&_:Bool)=q
     cases q with
     | false=>intro hc;exact Am hc
     | true=>intro _;exact⟨_,rfl⟩
    ·intro hc;exact Am hc
   ·intro hc;exact Am hc
 ·intro hc;exact Am hc
theorem Xe {t:TypeId}{zx zy:VV}(hc:∀ p∈(EN T st t zx zy).chk,p):∃ H',(EN T st t zx zy).put=some H':=by
 revert hc
 unfold EN
 split
 ·generalize (_&&_:Bool)=q
  cases q with
  | false=>intro hc;exact Am hc
  | true =>
   simp only[cond_true]
   split
   ·split
    ·intro _;exact⟨_,rfl⟩
    ·generalize (_&&_:Bool)=q
     cases q with
     | false=>intro hc;exact Am hc
     | true =>
      simp only[cond_true]
      split
      ·generalize (_&&_:Bool)=q
       cases q with
       | false=>intro hc;exact Am hc
       | true=>intro _;exact⟨_,rfl⟩
      ·generalize (_&&_:Bool)=q
       cases q with
       | false=>intro hc;exact Am hc
       | true =>
        simp only[cond_true]
        split
        ·generalize (_&&_:Bool)=q
         cases q with
         | false=>intro hc;exact Am hc
         | true=>intro _;exact⟨_,rfl⟩
        ·intro hc;exact Am hc
      ·generalize (_&&_:Bool)=q
       cases q with
       | false=>intro hc;exact Am hc
       | true =>
        simp only[cond_true]
        split
        ·intro _;exact⟨_,rfl⟩
        ·intro hc;exact Am hc
      ·generalize (_&&_:Bool)=q
       cases q with
       | false=>intro hc;exact Am hc
       | true=>intro _;exact⟨_,rfl⟩
      ·intro hc;exact Am hc
    ·intro hc;exact Am hc
   ·intro hc;exact Am hc
 ·intro hc;exact Am hc
theorem AiU {b:Bool}{k:IntKind}{x y:Int}:∃ v,((bif b then Builtin.max_ #[] 0 #[.int k x,.int k y] else Builtin.min_ #[] 0 #[.int k x,.int k y]):Sem Value).run P w=.ok v w/\V w E (some φ) (vmm b [.sc (.int k x),.sc (.int k y)]).val v:=by
 cases b with
 | true =>
  refine⟨.int k (max x y),?_,?_⟩
  ·have:(if y > x then y else x)=max x y:=by split<;>omega
   simp[Builtin.max_,Builtin.max2,this]
  ·simp only[vmm,decide_true,cond_true,Res.ok];exact .sc
 | false =>
  refine⟨.int k (min x y),?_,?_⟩
  ·have:(if y<x then y else x)=min x y:=by split<;>omega
   simp[Builtin.min_,Builtin.min2,this]
  ·simp only[vmm,decide_true,cond_true,cond_false,Res.ok];exact .sc
theorem Adl (hT:TOk P T)(hH:HRel E Hc φ w)(hHc:∀ id,id<st.nx->Hc id=st.H id){t:TypeId}{x:VV}{vx:Value}(hx:V w (E.up φ) (some φ) x vx)(hc:∀ p∈(II T st t x).chk,p) :
  ∃ v,(Instr.loadAt t vx).run P w=.ok v w/\V w (E.up φ) (some φ) (II T st t x).val v:=by
 cases x with
 | bp id off =>
  simp only[II]at hc ⊢
  cases hq:Nat.blt id st.nx with
  | false=>simp_all [Am]
  | true =>
   rw[hq]at hc
   simp only[cond_true]at hc ⊢
   obtain⟨b,hb,e⟩:=hx.bp_inv
   have hob:=hH.ob id _ hb
   rw[hHc id (Nat.le_of_ble_eq_true hq)]at hob
   cases hHi:st.H id with
   | arr=>simp_all [Am]
   | gone=>simp_all [Am]
   | kar=>simp_all [Am]
   | box cs =>
    rw[hHi]at hob hc
    obtain⟨c,ty,h2,h3⟩:=hob
    rw[e]
    refine VN hT (u:=fun j=>c.getD (off+j) undef) (fun j x hx=>?_) (fun j x hx=>?_) hc
    ·rw[List.getElem?_drop]at hx
     exact FA h2 (by rw[h3.1];grind)
    ·rw[List.getElem?_drop]at hx
     exact h3.2 _ x hx
 | ep id gen sz i o =>
  simp only[II]at hc ⊢
  cases hq:Nat.blt id st.nx with
  | false=>simp_all [Am]
  | true =>
   rw[hq]at hc
   simp only[cond_true]at hc ⊢
   obtain⟨c,len,hd,b,hph,hg,e,hcur⟩:=hx.ep_inv
   have hob:=hH.ob id _ hph
   rw[hHc id (Nat.le_of_ble_eq_true hq)]at hob
   have arr:∀ {fr:Bool} {g n s:Nat} {f:Nat->List VV},ObV w E φ (.arr fr g n s f) (.arr c len hd)->(Nat.beq gen g&&Nat.beq s sz)=true->(∀ p∈(Iw T t ((f i).drop o)).chk,p)->∃ v,(Instr.loadAt t vx).run P w=.ok v w/\V w (E.up φ) (some φ) (Iw T t ((f i).drop o)).val v:=by
    intro fr g n s f hob hq2 hcc
    obtain⟨rfl,rfl,hrow⟩:=hob
    rw[Bool.and_eq_true]at hq2
    have hsz:=Nat.eq_of_beq_eq_true hq2.2
    subst hsz
    obtain⟨hil,cap,rfl⟩:=hcur (Nat.eq_of_beq_eq_true hq2.1)
    obtain⟨cs,ty,h1,h2,h3,h4,h5,h6,h7⟩:=hrow
    rw[e]
    have hj:∀ (j:Nat) y,((f i).drop o)[j]?=some y->(f i)[o+j]?=some y/\i*s+o+j<cs.size:=by
     intro j y hy
     rw[List.getElem?_drop]at hy
     have:=(List.getElem?_eq_some_iff.1 hy).1
     rw[h5 i hil]at this
     have h8:(i+1)*s<=cap*s:=Nat.mul_le_mul_right _ (by omega)
     grind
    refine VN hT (u:=fun j=>cs.getD (i*s+o+j) undef) (fun j y hy=>FA h1 (hj j y hy).2) (fun j y hy=>?_) hcc
    have:=(h6 i (o+j) y hil (hj j y hy).1).held
    grind
   cases hHi:st.H id with
   | box cs=>simp_all [Am]
   | gone=>simp_all [Am]
   | arr fr g n s f =>
    rw[hHi]at hob hc
    simp only at hc ⊢
    cases hq2:(Nat.beq gen g&&Nat.beq s sz) with
    | false=>simp_all [Am]
    | true =>
     rw[hq2]at hc
     simp only[cond_true]at hc ⊢
     exact arr hob hq2 hc
   | kar g n s k r f =>
    rw[hHi]at hob hc
    simp only at hc ⊢
    cases hq2:(Nat.beq gen g&&Nat.beq s sz) with
    | false=>simp_all [Am]
    | true =>
     rw[hq2]at hc
     simp only[cond_true]at hc ⊢
     have hik:i=k:=hc _ (List.mem_cons_self ..)
     have:=arr (Ea.1 hob).1 hq2
     rw[hik,DG]at this
     exact this fun p hp=>hc p (List.mem_cons_of_mem _ hp)
 | tp cs =>
  simp only[II]at hc ⊢
  obtain⟨b,off,e,h1,h2,u,h3,h4⟩:=hx.tp_inv
  rw[e]
  exact VN hT h3 (fun j x hx=>(h4 j x hx).held) hc
 | _=>exact Am hc
theorem U3 {vs:Array Value}{cs:List VV}{ty:TypeId}(hid:φ st.nx=none)(hs:DM w (E.up φ) (some φ) cs vs) :
  EL w E φ st.nx [.box cs] [.box w.heap.size] (w.alloc (.cells vs ty))/\V (w.alloc (.cells vs ty)) (E.up (addP φ st.nx [.box w.heap.size])) (some (addP φ st.nx [.box w.heap.size])) (.bp st.nx 0) (.pointer (some ⟨w.heap.size,0,none⟩)):=by
 have hroom:Room w [.box w.heap.size] (w.alloc (.cells vs ty)):=Room.one ((Below.refl _ w).alloc (Nat.le_refl _) _) fun k hk=>by simp only[PlB]at hk;omega
 have hext:=hroom.ext (φ:=φ) (nx:=st.nx) (by grind)
 exact⟨EL.one hroom ⟨vs,ty,heap_alloc_new _ _,hs.ext hext⟩,.bp (F3 (i:=0) rfl)⟩
theorem Adj {src dst e:TypeId}(hs:P.underlying src=some (.slice e))(he:P.underlying e=some (.int .u8))(hd:P.underlying dst=some .string){b off n cap:Nat}{f:Nat->List VV}{u:Nat->Value}{E':A0}{m:Option Phi}
  (h2:∀ i x,i<n->(f i)[0]?=some x->w.cell? ⟨b,off+i,none⟩=some (u i)) (h3:∀ i x,i<n->(f i)[0]?=some x->V w E' m x (u i)) (hc:∀ p∈(SO n f).chk,p) :
  ∃ v,(convert src dst (.slice (some ⟨b,off,none⟩) n cap)).run P w=.ok v w/\V w (E.up φ) (some φ) (SO n f).val v:=by
 have hb:∀ i,i<n->XG (f i)=true:=fun i hi=>List.all_eq_true.1 (hc (((List.range n).all fun i=>XG (f i))=true) (by unfold SO;exact List.mem_cons_self ..)) i (List.mem_range.2 hi)
 refine⟨_,?_,.sc⟩
 rw[run_convert_bytes_string w src dst e _ n cap hs he hd]
 have hl:=run_loadCells_list (P:=P) w ⟨b,off,none⟩ (((List.range n).map fun i=>Ahz (f i)).map (Value.int .u8)) (fun j v hj=>by
  rw[List.getElem?_map,List.getElem?_map]at hj
  obtain⟨_,hk,rfl⟩:=Option.map_eq_some_iff.1 hj
  obtain⟨i,hk',rfl⟩:=Option.map_eq_some_iff.1 hk
  have hi:i=j/\j<n:=by grind
  obtain⟨rfl,hi⟩:=hi
  have:=hb i hi
  match hf:f i,this with
  | [.sc (.int .u8 k)],_ =>
   have e1:=h2 i _ hi (by rw[hf];rfl)
   have e2:=(h3 i _ hi (by rw[hf];rfl)).sc_inv
   have:(⟨b,off,none⟩:Addr).add i=⟨b,off+i,none⟩:=by unfold Addr.add;split<;>simp_all
   rw[this,e1,e2];rfl)
 simp only[List.length_map,List.length_range]at hl
 rw[run_bytesToString w _ n cap _ hl]
 rfl
theorem Agi (hT:TOk P T)(hH:HRel E Hc φ w)(hHc:∀ id,id<st.nx->Hc id=st.H id){s d:TypeId}{x:VV}{vx:Value}(hx:V w (E.up φ) (some φ) x vx)(hc:∀ p∈(Rx T st s d x).chk,p) :
  ∃ v,(convert s d vx).run P w=.ok v w/\V w (E.up φ) (some φ) (Rx T st s d x).val v:=by
 unfold Rx at hc ⊢
 split at hc
 ·rename_i e hs hd
  split at hc
  ·rename_i id gen n he
   cases hq:Nat.blt id st.nx with
   | false=>simp_all [Am]
   | true =>
    rw[hq]at hc
    simp only[cond_true]at hc ⊢
    obtain⟨c,len,hd',hd0,hph,hg,h0,hcur⟩:=hx.ow_inv
    have hob:=hH.ob id _ hph
    rw[hHc id (Nat.le_of_ble_eq_true hq)]at hob
    split at hc
    ·rename_i g _ sz f hHi
     rw[hHi]at hob
     obtain⟨rfl,rfl,hrow⟩:=hob
     cases hq2:(Nat.beq gen g&&Nat.beq sz 1) with
     | false=>simp_all [Am]
     | true =>
      rw[hq2]at hc
      simp only[cond_true]at hc ⊢
      rw[Bool.and_eq_true]at hq2
      obtain rfl:=Nat.eq_of_beq_eq_true hq2.1
      obtain rfl:=Nat.eq_of_beq_eq_true hq2.2
      obtain⟨rfl,hn⟩:=hcur rfl
      match hd0,h0,hrow with
      | none,h0,_ =>
       obtain⟨rfl,rfl⟩:=h0
       refine⟨_,?_,.sc⟩
       rw[run_convert_bytes_string w s d e _ 0 0 (hT.sl hs) (hT.int he) (hT.str hd)]
       rfl
      | some (b,cap),h0,hrow =>
       obtain⟨rfl,_⟩:=h0
       obtain⟨cs,ty,k1,k2,k3,k4,k5,k6,k7⟩:=hrow
       refine Adj (off:=0) (u:=fun i=>cs.getD (i*1+0) undef) (hT.sl hs) (hT.int he) (hT.str hd) (fun i x hi hx=>?_) (fun i x hi hx=>(k6 i 0 x (by omega) hx).held) hc
       grind [FA]
    ·exact Am hc
  ·rename_i fz n sz f he
   cases hq2:(Nat.beq sz 1) with
   | false=>simp_all [Am]
   | true =>
    rw[hq2]at hc
    simp only[cond_true]at hc ⊢
    obtain rfl:=Nat.eq_of_beq_eq_true hq2
    obtain⟨a,cap,rfl,_,_,h4⟩:=hx.sl_inv
    rcases Nat.eq_zero_or_pos n with rfl | hp
    ·refine⟨.string ByteArray.empty,?_,.sc⟩
     rw[run_convert_bytes_string w s d e _ 0 cap (hT.sl hs) (hT.int he) (hT.str hd)]
     cases a with
     | none=>rfl
     | some a =>
      have hl:=run_loadCells_list (P:=P) w a [] (fun j v hj=>by simp at hj)
      simp_all [run_bytesToString]
    ·obtain⟨b,off,rfl,_,_,h5,u,h6,h7⟩:=h4 hp
     exact Adj (u:=fun i=>u i 0) (hT.sl hs) (hT.int he) (hT.str hd) (by grind) (fun i x hi hx=>h7 i 0 x hi hx) hc
  ·rename_i he
   rw[hx.nl_inv]
   refine⟨_,?_,.sc⟩
   rw[run_convert_bytes_string w s d e _ 0 0 (hT.sl hs) (hT.int he) (hT.str hd)]
   rfl
  ·exact Am hc
 ·exact Ah0 hT hx hc
theorem Oc (hT:TOk P T)(hH:HRel E Hc φ w)(hz:Old E φ w){o:Oper}{t:TypeId}{n:Nat}{ps:Array (Nat × Operand)}(hop:o.op=.buildSlice t n ps)(hr:AfS w E φ st a (.buildSlice t n ps)){R:Res}
  (hR:R=bif O.gd then Od T t n (ps.toList.map fun p=>(p.1,st.val p.2)) else Cr T st t n (ps.toList.map fun p=>(p.1,st.val p.2))) (hc:∀ p∈R.chk,p) :
  (R.put=none/\((∀ i,i<R.new.length->φ (st.nx+i)=none)->Dg P E φ st.nx R.new R.val o a w)) ∨
  (∃ H',R.put=some H'/\((∀ id,st.nx<=id->φ id=none)->(∀ id,id<st.nx->φ id≠none)->HRel E st.H φ w ->
   Yc P E φ (GQ H' st.nx R.new) st.nx (st.nx+R.new.length) R.val o a w)):=by
 have hp:=Ul (st:=st) (a:=a) (φ:=φ) (E:=E) (w:=w) (ps:=ps) (by have hr':∀ y∈(Op.buildSlice t n ps).operands.toList,V w (E.up φ) (some φ) (st.val y) (a.eval y):=hr;simpa[Op.operands] using hr')
 refine .inl ?_
 cases hgd:O.gd with
 | true =>
  rw[hgd,cond_true]at hR
  obtain⟨h1,h2,v,w',h3,h4,h5⟩:=AhZ hT (fun k hk=>hk.elim (hz.lt k) fun ho=>hH.lt ho) hp.1 hp.2 (by rw[hR]at hc;exact hc)
  rw[← hR]at h1 h2 h5
  rw[h1]
  refine⟨h2,fun _=>Dg.of (S:=Instr.buildSlice t n (ps.map fun(i,x)=>(i,a.eval x))) (by unfold execOp;rw[hop]) ?_⟩
  exact⟨v,w',[],h3,EL.none h4,by rw[FO];exact h5⟩
 | false =>
  rw[hgd,cond_false]at hR
  subst hR
  refine⟨Abd,fun hid=>Dg.of (S:=Instr.buildSlice t n (ps.map fun(i,x)=>(i,a.eval x))) (by unfold execOp;rw[hop]) ?_⟩
  have hnew:=Abx hc
  exact(RM hT (by have:=hid 0 (by omega);simpa using this) hp.1 hp.2 hc).2
theorem Vn (hT:TOk P T)(hO:Iz P O)(hH:HRel E Hc φ w)(hHc:∀ id,id<st.nx->Hc id=st.H id)(hz:Old E φ w){o:Oper}(hr:AfS w E φ st a o.op)(hc:∀ p∈(vop T O st o.op).chk,p) :
  ((vop T O st o.op).put=none/\((∀ i,i<(vop T O st o.op).new.length->φ (st.nx+i)=none)->Dg P E φ st.nx (vop T O st o.op).new (vop T O st o.op).val o a w)) ∨
  (∃ H',(vop T O st o.op).put=some H'/\((∀ id,st.nx<=id->φ id=none)->(∀ id,id<st.nx->φ id≠none)->HRel E st.H φ w ->
   Yc P E φ (GQ H' st.nx (vop T O st o.op).new) st.nx (st.nx+(vop T O st o.op).new.length) (vop T O st o.op).val o a w)):=by
 cases hop:o.op<;>rw[hop]at hr hc<;>simp only[vop]at hc ⊢
 case move x=>exact .inl ⟨rfl,fun _=>Dg.quiet (S:=pure (a.eval x)) (by unfold execOp;rw[hop];rfl) ⟨_,rfl,hr x (by simp[Op.operands])⟩⟩
 case assign x=>exact .inl ⟨rfl,fun _=>Dg.quiet (S:=pure (a.eval x)) (by unfold execOp;rw[hop];rfl) ⟨_,rfl,hr x (by simp[Op.operands])⟩⟩
 case pick c x y=>exact .inl ⟨rfl,fun _=>Dg.quiet (by unfold execOp;simp_all) (AhX hr.1 hr.2.1 hr.2.2 hc)⟩
 case binOp op t x y t' =>
  obtain⟨v,h1,h2⟩:=Ah2 (w:=w) hT (ox:=x) (oy:=y) (hr x (by simp[Op.operands])) (hr y (by simp[Op.operands])) (fun c e=>by rw[e];rfl) hc
  exact .inl ⟨rfl,fun _=>Dg.quiet (by unfold execOp;rw[hop]) ⟨v,h1,h2⟩⟩
 case unOp op t x=>exact .inl ⟨rfl,fun _=>Dg.quiet (by unfold execOp;rw[hop]) (Ajm (hr x (by simp[Op.operands])) hc)⟩
 case fieldAddr s x f=>exact .inl ⟨rfl,fun _=>Dg.quiet (by unfold execOp;rw[hop]) (Z4 hT (hr x (by simp[Op.operands])) hc)⟩
 case field s x f=>exact .inl ⟨rfl,fun _=>Dg.quiet (by unfold execOp;rw[hop]) (Agh hT (hr x (by simp[Op.operands])) hc)⟩
 case indexAddr t x i=>exact .inl ⟨rfl,fun _=>Dg.quiet (by unfold execOp;rw[hop]) (Z3 hT (hr x (by simp[Op.operands])) (hr i (by simp[Op.operands])) (fun k hk=>hk.imp (hH.sub k) fun h=>h) hc)⟩
 case index t x i=>exact .inl ⟨rfl,fun _=>Dg.quiet (by unfold execOp;rw[hop]) (Agg hT (hr x (by simp[Op.operands])) (hr i (by simp[Op.operands])) hc)⟩
 case extract x i=>exact .inl ⟨rfl,fun _=>Dg.quiet (by unfold execOp;rw[hop]) (Z5 (hr x (by simp[Op.operands])) hc)⟩
 case convert s d x=>exact .inl ⟨rfl,fun _=>Dg.quiet (by unfold execOp;rw[hop]) (Agi hT hH hHc (hr x (by simp[Op.operands])) hc)⟩
 case load t x=>exact .inl ⟨rfl,fun _=>Dg.quiet (by unfold execOp;rw[hop]) (Adl hT hH hHc (hr x (by simp[Op.operands])) hc)⟩
 case slice t x lo hi mx =>
  cases mx with
  | some _=>exact Am hc
  | none =>
   refine .inl ⟨rfl,fun _=>Dg.quiet (S:=Instr.sliceAt t (a.eval x) (lo.map a.eval) (hi.map a.eval) none) (by unfold execOp;rw[hop];rfl) (Age hT (hr x (by simp[Op.operands])) ?_ ?_ hc)⟩
   ·cases lo with
    | none=>trivial
    | some l=>exact hr l (by simp[Op.operands])
   ·cases hi with
    | none=>trivial
    | some l=>exact hr l (by simp[Op.operands])
 case build t ps =>
  have hp:=Ul (st:=st) (a:=a) (φ:=φ) (E:=E) (w:=w) (ps:=ps) (by have hr':∀ y∈(Op.build t ps).operands.toList,V w (E.up φ) (some φ) (st.val y) (a.eval y):=hr;simpa[Op.operands] using hr')
  exact .inl ⟨rfl,fun _=>Dg.quiet (by unfold execOp;rw[hop]) (Agj hT hp.1 hp.2 hc)⟩
 case buildSlice t n ps=>grind [Oc]
 case makeSlice t n m =>
  exact .inl ⟨AdT,fun _=>Dg.of (S:=Instr.makeSlice t (a.eval n) (a.eval m)) (by unfold execOp;rw[hop]) (AhY hT (hr n (by simp[Op.operands])) (hr m (by simp[Op.operands])) hc).2⟩
 case nilCheck x =>
  have hx:=hr x (by simp[Op.operands])
  refine .inl ⟨rfl,fun _=>?_⟩
  intro K Q hK
  have run:∀ v,((∃ b,v=.pointer (some b))∨∃ g cs,v=.func (.func g) #[] cs)->a.eval x=v->(execOp a.eval o).run P w=.ok (.value v) w:=by
   rintro v (⟨b,rfl⟩ | ⟨g,cs,rfl⟩) e<;>(unfold execOp;rw[hop];simp only[e];rfl)
  have key:(execOp a.eval o).run P w=.ok (.value (a.eval x)) w/\V w (E.up φ) (some φ) (Aiz (st.val x)).val (a.eval x):=by
   generalize st.val x=z at hx hc ⊢
   cases z with
   | bp id off =>
    obtain⟨b,hb,e2⟩:=hx.bp_inv
    exact⟨run _ (.inl ⟨_,e2⟩) rfl,hx⟩
   | ep id gen sz i off =>
    obtain⟨_,_,_,b,_,_,e2,_⟩:=hx.ep_inv
    exact⟨run _ (.inl ⟨_,e2⟩) rfl,hx⟩
   | tp cs =>
    obtain⟨b,off,e2,_⟩:=hx.tp_inv
    exact⟨run _ (.inl ⟨_,e2⟩) rfl,hx⟩
   | fn g cs =>
    cases g with
    | func g =>
     refine⟨run _ (.inr ?_) rfl,hx⟩
     generalize a.eval x=v at hx
     cases hx with | fn h1 h2=>exact⟨g,_,rfl⟩
    | _=>exact Am hc
   | _=>exact Am hc
  unfold Oper.wp
  rw[key.1]
  exact hK _ w [] (EL.none (Below.refl _ _)) (by rw[FO];exact key.2)
 case makeFunc f first caps =>
  cases hq:first.isEmpty with
  | false=>rw[hq]at hc;exact Am hc
  | true =>
   have h0:first=#[]:=by simpa using hq
   subst h0
   refine .inl ⟨rfl,fun _=>?_⟩
   refine Dg.quiet (S:=Instr.makeFunc f ((#[]:Array Operand).map a.eval) (caps.map a.eval)) (by unfold execOp;rw[hop]) ⟨.func f #[] (caps.map a.eval),by simp[Instr.makeFunc],?_⟩
   show V w (E.up φ) (some φ) (.fn f (caps.toList.map st.val)) _
   refine .fn (by simp) fun j y hy=>?_
   rw[List.getElem?_map]at hy
   obtain⟨z,hz,rfl⟩:=Option.map_eq_some_iff.1 hy
   have hm:=hr z (by simp[Op.operands];grind)
   simp_all
 case box e x =>
  cases hq:K3 (st.val x) with
  | false=>simp_all [Am]
  | true =>
   simp only[cond_true]
   refine .inl ⟨by trivial,fun hid=>?_⟩
   intro K Q hK
   unfold Oper.wp execOp
   rw[hop]
   simp only[Instr.box,newVar,newRow,Sem.run_bind,Sem.run_pure,Result.andThen_ok,run_newObj]
   obtain⟨n1,n2⟩:=U3 (ty:=e) (by have:=hid 0 (by simp);simpa using this) ((hr x (by simp[Op.operands])).cells hq)
   exact hK _ _ _ n1 n2
 case alloc e =>
  cases hq:(T e).k.known with
  | false=>simp_all [Am]
  | true =>
   simp only[cond_true]
   obtain⟨ie,z,hie,hs,hz',hzz⟩:=hT.size (B4 hq)
   refine .inl ⟨by trivial,fun hid=>?_⟩
   intro K Q hK
   unfold Oper.wp execOp
   rw[hop]
   simp only[Instr.alloc,zeroValue,typeInfo,newVar,newRow,Sem.run_bind,Sem.run_pure,Result.andThen_ok,run_program,hie,hz',run_newObj]
   obtain⟨n1,n2⟩:=U3 (ty:=e) (E:=E) (st:=st) (vs:=z.cells) (cs:=z.cells.toList.map litVV) (by have:=hid 0 (by simp);simpa using this) (DM.zero z.cells)
   rw[hzz]at hK
   exact hK _ _ _ n1 n2
 case store t x y =>
  obtain⟨H',hH'⟩:=Abc hc
  refine .inr ⟨H',hH',fun _ _ hHs=>?_⟩
  obtain⟨H2,h1,h2,h3,h4⟩:=Agd hT hHs hz.lt hop (hr x (by simp[Op.operands])) (hr y (by simp[Op.operands])) hc
  rw[hH']at h1
  simp only[Option.some.injEq]at h1
  subst h1
  rw[h2,h3]
  intro K Q hK
  refine h4 K Q fun v w' φ' g1 g2 g3 g4=>hK v w' φ' (by simpa[GQ] using g1) g2 (fun id=>?_) g4
  grind
 case call c =>
  cases hcl:c.callee with
  | value f =>
   rw[hcl]at hc
   exact Ah1 hO hH hHc hz hop hcl (hr f (by simp[Op.operands,Call.operands,hcl])) (fun y hy=>hr y (by simp[Op.operands,Call.operands,hcl];right;simpa using hy)) hc
  | invoke r n=>simp_all [Am]
  | builtin b =>
   rw[hcl]at hc
   cases b<;>try exact Am hc
   case append =>
    replace hc:∀ p∈(Oe T st (c.args.toList.map st.val) c.argTypes.toList).chk,p:=hc
    obtain⟨x',y',t,e1,e2⟩:=SU hc
    obtain⟨x,y,hargs,rfl,rfl⟩:=Vq e1
    have htys:c.argTypes=#[t,t]:=Array.ext' (by simpa using e2)
    have hx:=hr x (by simp[Op.operands,Call.operands,hcl,hargs])
    have hy:=hr y (by simp[Op.operands,Call.operands,hcl,hargs])
    have hv:Oe T st (c.args.toList.map st.val) c.argTypes.toList=EN T st t (st.val x) (st.val y):=by rw[e1,e2];simp[Oe]
    show((Oe T st (c.args.toList.map st.val) c.argTypes.toList).put=none/\_)∨_
    rw[hv]at hc ⊢
    obtain⟨H',hH'⟩:=Xe hc
    refine .inr ⟨H',hH',fun hfr hlv hHs=>?_⟩
    obtain⟨H2,h1,h2⟩:=Adn (ty:=o.type) hT hHs hz.lt hfr hx hy hc
    rw[hH']at h1
    simp only[Option.some.injEq]at h1
    subst h1
    refine Yc.of (S:=Builtin.append_ #[t,t] o.type #[a.eval x,a.eval y]) ?_ h2
    unfold execOp
    rw[hop]
    simp only[resolve,hcl,hargs,htys,invoke,builtin,List.map_toArray,List.map_cons,List.map_nil,pure_bind]
   case len =>
    refine .inl ⟨rfl,fun _=>?_⟩
    replace hc:∀ p∈(Yr T (c.args.toList.map st.val) c.argTypes.toList).chk,p:=hc
    show Dg P E φ st.nx [] (Yr T (c.args.toList.map st.val) c.argTypes.toList).val o a w
    have shape:∃ x t,c.args=#[x]/\c.argTypes=#[t]:=by
     obtain⟨x',t,e1,e2⟩:=SS hc
     have hl:c.args.toList.length=1:=by have:=congrArg List.length e1;simpa using this
     match hm:c.args.toList,hl with
     | [x],_=>exact⟨x,t,Array.ext' (by simpa using hm),Array.ext' (by simpa using e2)⟩
    obtain⟨x,t,hargs,htys⟩:=shape
    have hx:=hr x (by simp[Op.operands,Call.operands,hcl,hargs])
    rw[hargs,htys]at hc ⊢
    obtain⟨v,h1,h2⟩:=AiV (w:=w) (ty:=o.type) hT hx hc
    intro K Q hK
    unfold Oper.wp execOp
    rw[hop]
    simp only[resolve,hcl,hargs,htys,Sem.run_bind,Sem.run_pure,Result.andThen_ok,invoke,builtin,List.map_toArray,List.map_cons,List.map_nil,h1]
    exact hK v w [] (EL.none (Below.refl _ _)) (by rw[FO];exact h2)
   case max =>
    refine .inl ⟨rfl,fun _=>?_⟩
    replace hc:∀ p∈(vmm true (c.args.toList.map st.val)).chk,p:=hc
    show Dg P E φ st.nx [] (vmm true (c.args.toList.map st.val)).val o a w
    obtain⟨k,x',y',e1⟩:=Qb hc
    obtain⟨x,y,hargs,e2,e3⟩:=Vq e1
    have hx:=hr x (by simp[Op.operands,Call.operands,hcl,hargs])
    have hy:=hr y (by simp[Op.operands,Call.operands,hcl,hargs])
    rw[e2]at hx
    rw[e3]at hy
    rw[e1]
    intro K Q hK
    unfold Oper.wp execOp
    rw[hop]
    obtain⟨v,h1,h2⟩:=AiU (P:=P) (w:=w) (E:=E.up φ) (φ:=φ) (b:=true) (k:=k) (x:=x') (y:=y')
    simp only[cond_true]at h1
    have h1':(Builtin.max_ c.argTypes o.type #[.int k x',.int k y']).run P w=.ok v w:=h1
    simp only[resolve,hcl,hargs,Sem.run_bind,Sem.run_pure,Result.andThen_ok,invoke,builtin,List.map_toArray,List.map_cons,List.map_nil,hx.sc_inv,hy.sc_inv,h1']
    exact hK v w [] (EL.none (Below.refl _ _)) (by rw[FO];exact h2)
   case min =>
    refine .inl ⟨rfl,fun _=>?_⟩
    replace hc:∀ p∈(vmm false (c.args.toList.map st.val)).chk,p:=hc
    show Dg P E φ st.nx [] (vmm false (c.args.toList.map st.val)).val o a w
    obtain⟨k,x',y',e1⟩:=Qb hc
    obtain⟨x,y,hargs,e2,e3⟩:=Vq e1
    have hx:=hr x (by simp[Op.operands,Call.operands,hcl,hargs])
    have hy:=hr y (by simp[Op.operands,Call.operands,hcl,hargs])
    rw[e2]at hx
    rw[e3]at hy
    rw[e1]
    intro K Q hK
    unfold Oper.wp execOp
    rw[hop]
    obtain⟨v,h1,h2⟩:=AiU (P:=P) (w:=w) (E:=E.up φ) (φ:=φ) (b:=false) (k:=k) (x:=x') (y:=y')
    simp only[cond_false]at h1
    have h1':(Builtin.min_ c.argTypes o.type #[.int k x',.int k y']).run P w=.ok v w:=h1
    simp only[resolve,hcl,hargs,Sem.run_bind,Sem.run_pure,Result.andThen_ok,invoke,builtin,List.map_toArray,List.map_cons,List.map_nil,hx.sc_inv,hy.sc_inv,h1']
    exact hK v w [] (EL.none (Below.refl _ _)) (by rw[FO];exact h2)
 all_goals exact Am hc
end
end
section
def Res.base (r:Res)(st:St):Nat->Ob :=
 match r.put with
 | some H'=>H'
 | none=>st.H
def St.after (st:St)(o:Oper)(r:Res):St :=
 St.put { st with H:=GQ (r.base st) st.nx r.new,nx:=st.nx+r.new.length } o.dst r.val
def AfL : VV->Option Bool
 | .sc (.bool b)=>some b
 | _=>none
def Kg (ops:Array Oper)(st:St)(pcs:List Bool)(o:Oper):Option Bool :=
 match o.guard with
 | none=>some true
 | some (j,want) =>
  match pcs[j]?,(ops[j]?).bind (·.dst) with
  | some p,some d =>
   match AfL (st.t d) with
   | some b=>some (p&&(b==want))
   | none=>none
  | _,_=>none
def Ab5 : List Prop->Prop->Prop
 | [],K=>K
 | p::ps,K=>p/\Ab5 ps K
def Pq (pc:Bool):List Prop->Prop->Prop
 | [],K=>K
 | p::ps,K=>(pc=true->p)/\Pq pc ps K
def IB (M:Array Nat)(i j:Nat):Bool:=(M.getD i 0).testBit j
def Ky : Op->Bool
 | .load .. | .store .. | .alloc _ | .box .. | .buildSlice .. | .makeSlice .. | .convert ..=>true
 | .call c=>match c.callee with
  | .builtin .len | .builtin .max | .builtin .min=>false
  | _=>true
 | _=>false
def tpB (st:St):Op->Bool
 | .load _ a=>match st.val a with
  | .tp _=>true
  | _=>false
 | _=>false
def DB (st:St)(op:Op):Bool:=Ky op&&!tpB st op
def CE (st:St):Op->Option Nat
 | .load _ a=>match st.val a with
  | .bp id _=>bif Nat.blt id st.nx then some id else none
  | .ep id _ _ _ _=>bif Nat.blt id st.nx then some id else none
  | _=>none
 | _=>none
def Jq (ld:FuncId->Bool)(st:St):Op->Option (FuncId × List Nat × List Ob × List VV)
 | .call c =>
  match c.callee with
  | .value f=>Af4 ld st (st.val f) (c.args.toList.map st.val)
  | _=>none
 | _=>none
def AcP (st:St):Op->Option (List Nat)
 | .store _ a _=>match st.val a with
  | .bp id _=>some [id]
  | _=>none
 | _=>none
def EO (ld:FuncId->Bool)(st:St)(op:Op):Option (List Nat) :=
 match Jq ld st op with
 | some q=>bif ld q.1 then some q.2.1 else none
 | none=>AcP st op
structure Fl where
 p:Bool
 l:Bool
 s:Option Nat
 t:Option (List Nat)
def esc : Option Nat->Option (List Nat)->Bool
 | some id,some ids=>!(ids.any (Nat.beq id))
 | _,_=>false
def X4 (f g:Fl):Bool:=(g.p&&f.l&&!(esc f.s g.t))||(g.l&&f.p&&!(esc g.s f.t))
def Res.flag (r:Res)(l:Bool)(s:Option Nat)(t:Option (List Nat)):Fl:=⟨r.put.isSome,l,s,t⟩
def Ix (dr:Bool)(ops:Array Oper)(fl:List Fl)(k:Nat)(g:Fl):Bool:=!dr||(List.range k).all fun s =>
 match fl[s]? with
 | some f=>!(X4 f g)||IB (Region.before ops) k s
 | none=>false
def KX (T:TypeId->TE)(O:Nat->Orc)(dr:Bool)(ops:Array Oper):Nat->List Oper->St->List Bool->List Fl->(St->Prop)->Prop
 | _,[],st,_,_,K=>K st
 | k,o::rest,st,pcs,fl,K =>
  match Kg ops st pcs o with
  | none=>False
  | some pc =>
   bif Ix dr ops fl k ((vop T (O k) st o.op).flag (DB st o.op) (CE st o.op) (EO (O k).lend st o.op)) then
    match o.guard,(vop T (O k) st o.op).new,(vop T (O k) st o.op).put with
    | none,_,_=>Ab5 (vop T (O k) st o.op).chk (KX T O dr ops (k+1) rest (st.after o (vop T (O k) st o.op)) (pcs++[pc]) (fl++[(vop T (O k) st o.op).flag (DB st o.op) (CE st o.op) (EO (O k).lend st o.op)]) K)
    | some _,[],none=>Pq pc (vop T (O k) st o.op).chk (KX T O dr ops (k+1) rest (st.after o (vop T (O k) st o.op)) (pcs++[pc]) (fl++[(vop T (O k) st o.op).flag (DB st o.op) (CE st o.op) (EO (O k).lend st o.op)]) K)
    | _,_,_=>False
   else False
theorem Jd {K:Prop}:∀ {l:List Prop},Ab5 l K->(∀ p∈l,p)/\K
 | [],h=>⟨fun p hp=>by simp at hp,h⟩
 | q::l,h=>by
  obtain⟨h1,h2⟩:=Jd h.2
  refine⟨fun p hp=>?_,h2⟩
  rcases List.mem_cons.1 hp with rfl | hp
  ·exact h.1
  ·exact h1 p hp
theorem Io {pc:Bool}{K:Prop}:∀ {l:List Prop},Pq pc l K->(pc=true->∀ p∈l,p)/\K
 | [],h=>⟨fun _ p hp=>by simp at hp,h⟩
 | q::l,h=>by
  obtain⟨h1,h2⟩:=Io h.2
  refine⟨fun hpc p hp=>?_,h2⟩
  rcases List.mem_cons.1 hp with rfl | hp
  ·exact h.1 hpc
  ·exact h1 hpc p hp
section
variable (T : TypeId->TE) (O:Nat->Orc) (ops:Array Oper) (st0:St)
def A3 : Nat->St × List Bool
 | 0=>(st0,[])
 | i+1 =>
  match ops[i]? with
  | none=>A3 i
  | some o=>((A3 i).1.after o (vop T (O i) (A3 i).1 o.op),(A3 i).2++[(Kg ops (A3 i).1 (A3 i).2 o).getD false])
def rPc (i:Nat):Bool :=
 match ops[i]? with
 | none=>false
 | some o=>(Kg ops (A3 T O ops st0 i).1 (A3 T O ops st0 i).2 o).getD false
def rR (i:Nat):Res :=
 match ops[i]? with
 | none=>.bad
 | some o=>vop T (O i) (A3 T O ops st0 i).1 o.op
def rL (i:Nat):Bool :=
 match ops[i]? with
 | none=>false
 | some o=>DB (A3 T O ops st0 i).1 o.op
def rSo (i:Nat):Option Nat :=
 match ops[i]? with
 | none=>none
 | some o=>CE (A3 T O ops st0 i).1 o.op
def rTc (i:Nat):Option (List Nat) :=
 match ops[i]? with
 | none=>none
 | some o=>EO (O i).lend (A3 T O ops st0 i).1 o.op
def rFl (i:Nat):Fl:=(rR T O ops st0 i).flag (rL T O ops st0 i) (rSo T O ops st0 i) (rTc T O ops st0 i)
def rF (i:Nat):List Fl:=(List.range i).map fun j=>rFl T O ops st0 j
end
section
variable {P : Program} {T:TypeId->TE} {O:Nat->Orc} {ops:Array Oper} {st0:St}
theorem Hk {i:Nat}{o:Oper}(ho:ops[i]?=some o):(A3 T O ops st0 (i+1)).1=(A3 T O ops st0 i).1.after o (rR T O ops st0 i)/\(A3 T O ops st0 (i+1)).2=(A3 T O ops st0 i).2++[rPc T O ops st0 i]:=by
 simp only[A3,rR,rPc,ho]
 exact⟨trivial,trivial⟩
theorem Tv : ∀ (i:Nat),i<=ops.size->(A3 T O ops st0 i).2.length=i/\∀ k,k<i->(A3 T O ops st0 i).2[k]?=some (rPc T O ops st0 k)
 | 0,_=>⟨rfl,fun k hk=>by omega⟩
 | i+1,hi=>by
  obtain⟨h1,h2⟩:=Tv i (by omega)
  have ho:ops[i]?=some (ops[i]'(by omega)):=by simp[show i<ops.size by omega]
  obtain⟨_,e⟩:=Hk (T:=T) (O:=O) (st0:=st0) ho
  rw[e]
  refine⟨by simp[h1],fun k hk=>?_⟩
  by_cases hki:k<i
  ·rw[List.getElem?_append_left (by omega)];exact h2 k hki
  ·obtain rfl:k=i:=by omega
   rw[List.getElem?_append_right (by omega)];simp[h1]
structure Jo (dr:Bool) (T:TypeId->TE) (O:Nat->Orc) (ops:Array Oper) (st0:St) (i:Nat) (o:Oper):Prop where
 pc:Kg ops (A3 T O ops st0 i).1 (A3 T O ops st0 i).2 o=some (rPc T O ops st0 i)
 chk:rPc T O ops st0 i=true->∀ p∈(rR T O ops st0 i).chk,p
 plain:o.guard≠none->(rR T O ops st0 i).new=[]/\(rR T O ops st0 i).put=none
 ord:dr=true->∀ s,s<i->X4 (rFl T O ops st0 s) (rFl T O ops st0 i)=true->IB (Region.before ops) i s=true
theorem P4 {dr:Bool}{K:St->Prop}:∀ (l:List Oper) (i:Nat),l=ops.toList.drop i->i<=ops.size->KX T O dr ops i l (A3 T O ops st0 i).1 (A3 T O ops st0 i).2 (rF T O ops st0 i) K ->
  (∀ j o,i<=j->ops[j]?=some o->Jo dr T O ops st0 j o)/\K (A3 T O ops st0 ops.size).1
 | [],i,hl,hi,h=>by
  have hlen:=congrArg List.length hl
  simp at hlen
  obtain rfl:i=ops.size:=by omega
  refine⟨fun j o hj ho=>?_,h⟩
  grind
 | o::rest,i,hl,hi,h=>by
  have hlen:=congrArg List.length hl
  simp at hlen
  have hi':i<ops.size:=by omega
  have ho:ops[i]?=some o:=by
   have:=congrArg (·[0]?) hl
   grind
  have hrest:rest=ops.toList.drop (i+1):=by
   have:=congrArg List.tail hl
   simpa using this
  obtain⟨e1,e2⟩:=Hk (T:=T) (O:=O) (st0:=st0) ho
  simp only[KX]at h
  split at h
  ·exact h.elim
  ·rename_i pc hpc
   have hp:rPc T O ops st0 i=pc:=by simp only[rPc,ho,hpc,Option.getD_some]
   have hr:rR T O ops st0 i=vop T (O i) (A3 T O ops st0 i).1 o.op:=by simp only[rR,ho]
   have hL:(rR T O ops st0 i).flag (DB (A3 T O ops st0 i).1 o.op) (CE (A3 T O ops st0 i).1 o.op) (EO (O i).lend (A3 T O ops st0 i).1 o.op)=rFl T O ops st0 i:=by simp only[rFl,rL,rSo,rTc,ho]
   rw[← hr,hL]at h
   have eF:rF T O ops st0 i++[rFl T O ops st0 i]=rF T O ops st0 (i+1):=by
    unfold rF
    rw[List.range_succ,List.map_append]
    rfl
   cases hpu:Ix dr ops (rF T O ops st0 i) i (rFl T O ops st0 i) with
   | false=>rw[hpu]at h;exact h.elim
   | true =>
   rw[hpu]at h
   simp only[cond_true]at h
   have hord:dr=true->∀ s,s<i->X4 (rFl T O ops st0 s) (rFl T O ops st0 i)=true->IB (Region.before ops) i s=true:=by
    intro hdr s hs hn
    unfold Ix at hpu
    rw[hdr,Bool.not_true,Bool.false_or]at hpu
    have hx:=List.all_eq_true.1 hpu s (List.mem_range.2 hs)
    have hf:(rF T O ops st0 i)[s]?=some (rFl T O ops st0 s):=by
     unfold rF
     grind
    grind
   have key:Jo dr T O ops st0 i o/\KX T O dr ops (i+1) rest ((A3 T O ops st0 i).1.after o (rR T O ops st0 i)) ((A3 T O ops st0 i).2++[pc]) (rF T O ops st0 (i+1)) K:=by
    rw[eF]at h
    split at h
    ·rename_i hg
     obtain⟨h1,h2⟩:=Jd h
     exact⟨⟨by rw[hpc,hp],fun _=>h1,fun hn=>absurd hg hn,hord⟩,h2⟩
    ·rename_i hg hn hp2
     obtain⟨h1,h2⟩:=Io h
     exact⟨⟨by rw[hpc,hp],fun hq=>h1 (by rw[← hp];exact hq),fun _=>⟨hn,hp2⟩,hord⟩,h2⟩
    ·exact h.elim
   obtain⟨hg,hx⟩:=key
   rw[← hp,← e1,← e2]at hx
   obtain⟨h3,h4⟩:=P4 rest (i+1) hrest hi' hx
   refine⟨fun j oj hj hoj=>?_,h4⟩
   by_cases hji:j=i
   ·subst hji
    rw[ho]at hoj
    simp only[Option.some.injEq]at hoj
    subst hoj
    exact hg
   ·exact h3 j oj (by omega) hoj
theorem Zs (st:St)(o:Oper)(r:Res)(t:Nat):(st.after o r).t t=if o.dst=some t then r.val else st.t t:=by
 have h0:∀ (s:St) (d:Option Nat),(s.put d r.val).t t=if d=some t then r.val else s.t t:=by
  intro s d
  cases d with
  | none=>simp[St.put]
  | some d =>
   simp only[St.put]
   cases hq:Nat.beq t d with
   | true=>simp_all
   | false =>
    have hne:d≠t:=by rintro rfl;simp at hq
    simp[hne]
 unfold St.after
 rw[h0]
theorem Lv {t:Nat}:∀ (i:Nat),i<=ops.size->(∀ j o,j<i->ops[j]?=some o->o.dst≠some t)->(A3 T O ops st0 i).1.t t=st0.t t
 | 0,_,_=>rfl
 | i+1,hi,h=>by
  have ho:ops[i]?=some (ops[i]'(by omega)):=by grind
  rw[(Hk ho).1,Zs,if_neg (h i _ (by omega) ho)]
  exact Lv i (by omega) fun j o hj=>h j o (by omega)
theorem IW {t j:Nat}{oj:Oper}(hoj:ops[j]?=some oj)(hd:oj.dst=some t):∀ (i:Nat),i<=ops.size->j<i->(∀ k o,k<i->k≠j->ops[k]?=some o->o.dst≠some t)->(A3 T O ops st0 i).1.t t=(rR T O ops st0 j).val
 | 0,_,hj,_=>by omega
 | i+1,hi,hj,h=>by
  have ho:ops[i]?=some (ops[i]'(by omega)):=by grind
  rw[(Hk ho).1,Zs]
  by_cases hji:j=i
  ·grind
  ·rw[if_neg (h i _ (by omega) (by omega) ho)]
   exact IW hoj hd i (by omega) (by omega) fun k o hk=>h k o (by omega)
end
end
section
def LU (ops:Array Oper):Nat->Nat->Nat->Bool
 | 0,_,_=>false
 | f+1,i,j =>
  match(ops[j]?).bind (·.guard) with
  | none=>true
  | some g =>
   match(ops[i]?).bind (·.guard) with
   | none=>false
   | some h=>h==g||LU ops f h.1 j
def pickOk (ops:Array Oper)(n i:Nat)(c:Operand)(want:Bool)(j:Nat):Bool :=
 match(ops[j]?).bind (·.guard),c with
 | some (k,w),.tmp t=>w==want&&(ops[k]?).bind (·.dst)==some t&&LU ops n i k&&Nat.blt k i
 | _,_=>false
def rdB (ops:Array Oper)(M:Array Nat)(i:Nat)(ok:Nat->Bool):Operand->Bool
 | .tmp t=>(List.range ops.size).all fun j =>
  match ops[j]? with
  | some oj=>!(oj.dst==some t)||Nat.beq j i||(bif Nat.blt j i then IB M i j&&ok j else IB M j i)
  | none=>true
 | _=>true
def Wh (ops:Array Oper)(M:Array Nat)(i:Nat):Op->Bool
 | .pick c x y=>rdB ops M i (LU ops ops.size i) c&&rdB ops M i (fun j=>LU ops ops.size i j||pickOk ops ops.size i c true j) x&&rdB ops M i (fun j=>LU ops ops.size i j||pickOk ops ops.size i c false j) y
 | op=>op.operands.toList.all (rdB ops M i (LU ops ops.size i))
def opB (ops:Array Oper)(M:Array Nat)(N i:Nat)(o:Oper):Bool :=
 (o.after.toList.all fun e=>!Region.binds .any e||Nat.blt e.on i) &&
 ((List.range ops.size).all fun j=>!IB M i j||o.after.toList.any fun e=>Region.binds .any e&&(Nat.beq e.on j||IB M e.on j)) &&
 (match o.dst with
  | none=>true
  | some d=>Nat.blt d N&&(List.range ops.size).all fun j=>Nat.beq j i||!((ops[j]?).bind (·.dst)==some d)) &&
 (match o.guard with
  | none=>true
  | some (k,_)=>Nat.blt k i&&IB M i k) &&
 Wh ops M i o.op
def Agm (ops:Array Oper)(N:Nat):Bool :=
 let M:=Region.before ops
 (List.range ops.size).all fun i =>
  match ops[i]? with
  | some o=>opB ops M N i o
  | none=>false
def Aco (ops:Array Oper)(M:Array Nat)(i:Nat)(ok:Nat->Bool)(y:Operand):Prop :=
 ∀ t,y=.tmp t->∀ (j:Nat) oj,ops[j]?=some oj->oj.dst=some t->j≠i->(j<i->IB M i j=true/\ok j=true)/\(i<j->IB M j i=true)
structure Kb (ops:Array Oper) (M:Array Nat) (N:Nat):Prop where
 low:∀ (i:Nat) o e,ops[i]?=some o->e∈o.after->Region.binds .any e=true->e.on<i
 mask:∀ (i:Nat) o j,ops[i]?=some o->j<ops.size->IB M i j=true->∃ e∈o.after,Region.binds .any e=true/\(e.on=j∨IB M e.on j=true)
 dst:∀ (i:Nat) o d,ops[i]?=some o->o.dst=some d->d<N
 uniq:∀ (i j:Nat) oi oj d,ops[i]?=some oi->ops[j]?=some oj->oi.dst=some d->oj.dst=some d->i=j
 guard:∀ (i:Nat) o k w,ops[i]?=some o->o.guard=some (k,w)->k<i/\IB M i k=true
 reads:∀ (i:Nat) o,ops[i]?=some o->(∀ c x y,o.op≠.pick c x y)->∀ y∈o.op.operands.toList,Aco ops M i (LU ops ops.size i) y
 pick:∀ (i:Nat) o c x y,ops[i]?=some o->o.op=.pick c x y->Aco ops M i (LU ops ops.size i) c/\Aco ops M i (fun j=>LU ops ops.size i j||pickOk ops ops.size i c true j) x/\Aco ops M i (fun j=>LU ops ops.size i j||pickOk ops ops.size i c false j) y
theorem YW {ops:Array Oper}{M:Array Nat}{i:Nat}{ok:Nat->Bool}{y:Operand}(h:rdB ops M i ok y=true):Aco ops M i ok y:=by
 rintro t rfl j oj hj hd hne
 simp only[rdB,List.all_eq_true,List.mem_range]at h
 have:=h j (Array.getElem?_eq_some_iff.1 hj).1
 rw[hj]at this
 simp only[hd,beq_self_eq_true,Bool.not_true,Bool.false_or]at this
 have hb:Nat.beq j i=false:=by grind [Nat.eq_of_beq_eq_true]
 rw[hb,Bool.false_or]at this
 constructor
 ·intro hlt
  simp_all
 ·intro hlt
  have hl:Nat.blt j i=false:=by
   cases hq:Nat.blt j i with
   | true=>have:=Nat.le_of_ble_eq_true hq;omega
   | false=>rfl
  grind
theorem Adw {ops:Array Oper}{N:Nat}(h:Agm ops N=true):Kb ops (Region.before ops) N:=by
 have hop:∀ (i:Nat) o,ops[i]?=some o->opB ops (Region.before ops) N i o=true:=by
  intro i o ho
  have:=List.all_eq_true.1 h i (List.mem_range.2 (Array.getElem?_eq_some_iff.1 ho).1)
  simp only[ho]at this
  exact this
 have split:∀ (i:Nat) o,ops[i]?=some o->_:=fun i o ho=>by
  have:=hop i o ho
  unfold opB at this
  simp only[Bool.and_eq_true]at this
  exact this
 refine⟨?_,?_,?_,?_,?_,?_,?_⟩
 ·intro i o e ho he hb
  obtain⟨⟨⟨⟨h1,_⟩,_⟩,_⟩,_⟩:=split i o ho
  have:=List.all_eq_true.1 h1 e (by simpa using he)
  rw[hb]at this
  exact Nat.le_of_ble_eq_true (by simpa[Nat.blt] using this)
 ·intro i o j ho hj hb
  obtain⟨⟨⟨⟨_,h1⟩,_⟩,_⟩,_⟩:=split i o ho
  have:=List.all_eq_true.1 h1 j (List.mem_range.2 hj)
  rw[hb,Bool.not_true,Bool.false_or,List.any_eq_true]at this
  obtain⟨e,he,hq⟩:=this
  rw[Bool.and_eq_true,Bool.or_eq_true]at hq
  exact⟨e,by simpa using he,hq.1,hq.2.imp Nat.eq_of_beq_eq_true id⟩
 ·intro i o d ho hd
  obtain⟨⟨⟨⟨_,_⟩,h1⟩,_⟩,_⟩:=split i o ho
  rw[hd]at h1
  simp only[Bool.and_eq_true]at h1
  exact Nat.le_of_ble_eq_true h1.1
 ·intro i j oi oj d hi hj hdi hdj
  obtain⟨⟨⟨⟨_,_⟩,h1⟩,_⟩,_⟩:=split i oi hi
  rw[hdi]at h1
  simp only[Bool.and_eq_true]at h1
  have:=List.all_eq_true.1 h1.2 j (List.mem_range.2 (Array.getElem?_eq_some_iff.1 hj).1)
  rw[hj,Option.bind_some,hdj]at this
  simp only[beq_self_eq_true,Bool.not_true,Bool.or_false]at this
  exact(Nat.eq_of_beq_eq_true this).symm
 ·intro i o k w ho hg
  obtain⟨⟨⟨⟨_,_⟩,_⟩,h1⟩,_⟩:=split i o ho
  rw[hg]at h1
  simp only[Bool.and_eq_true]at h1
  exact⟨Nat.le_of_ble_eq_true h1.1,h1.2⟩
 ·intro i o ho hnp y hy
  obtain⟨⟨⟨⟨_,_⟩,_⟩,_⟩,h1⟩:=split i o ho
  unfold Wh at h1
  split at h1
  ·rename_i c x y' e;exact absurd e (hnp c x y')
  ·exact YW (List.all_eq_true.1 h1 y hy)
 ·intro i o c x y ho hp
  obtain⟨⟨⟨⟨_,_⟩,_⟩,_⟩,h1⟩:=split i o ho
  rw[hp]at h1
  simp only[Wh,Bool.and_eq_true]at h1
  exact⟨YW h1.1.1,YW h1.1.2,YW h1.2⟩
section
variable {ops : Array Oper} {M:Array Nat} {N:Nat}
def MU (ops:Array Oper)(D:Nat->Bool):Prop:=∀ (i:Nat) o e,ops[i]?=some o->D i=true->e∈o.after->Region.binds .any e=true->D e.on=true
theorem DA (hR:Kb ops M N){D:Nat->Bool}(hD:MU ops D):∀ (i:Nat) o (j:Nat),ops[i]?=some o->(∀ e∈o.after,Region.binds .any e=true->D e.on=true)->j<ops.size->IB M i j=true->D j=true:=by
 intro i
 induction i using Nat.strongRecOn with
 | _ i ih =>
  intro o j ho hdeps hj hb
  obtain⟨e,he,hbd,hq⟩:=hR.mask i o j ho hj hb
  have hDe:=hdeps e he hbd
  rcases hq with hq | hq
  ·rw[← hq];exact hDe
  ·have hlt:=hR.low i o e ho he hbd
   have hil:=(Array.getElem?_eq_some_iff.1 ho).1
   have hoe:ops[e.on]?=some (ops[e.on]'(by omega)):=by grind
   exact ih e.on hlt _ j hoe (fun e' he' hb'=>hD e.on _ e' hoe hDe he' hb') hj hq
end
end
section
section
variable {dr : Bool} {P:Program} {T:TypeId->TE} {O:Nat->Orc} {ops:Array Oper} {st0:St} {M:Array Nat} {N:Nat} {E:A0} {w0:World} {φ0:Phi}
theorem St.put_nx (s:St)(d:Option Nat)(x:VV):(s.put d x).nx=s.nx:=by cases d<;>rfl
theorem St.put_H (s:St)(d:Option Nat)(x:VV):(s.put d x).H=s.H:=by cases d<;>rfl
theorem FZ {i:Nat}{o:Oper}(ho:ops[i]?=some o):(A3 T O ops st0 (i+1)).1.nx=(A3 T O ops st0 i).1.nx+(rR T O ops st0 i).new.length /\
  (A3 T O ops st0 (i+1)).1.H=GQ ((rR T O ops st0 i).base (A3 T O ops st0 i).1) (A3 T O ops st0 i).1.nx (rR T O ops st0 i).new:=by
 rw[(Hk (T:=T) (O:=O) (st0:=st0) ho).1]
 unfold St.after
 grind [St.put_nx,St.put_H]
theorem GV (i m:Nat)(him:i<=m)(hm:m<=ops.size):(A3 T O ops st0 i).1.nx<=(A3 T O ops st0 m).1.nx:=by
 induction m with
 | zero=>grind
 | succ m ih =>
  by_cases hi:i=m+1
  ·subst hi;exact Nat.le_refl _
  ·have h1:=ih (by omega) (by omega)
   have ho:ops[m]?=some (ops[m]'(by omega)):=by grind
   grind [FZ]
theorem JC (i m:Nat)(him:i<=m)(hm:m<=ops.size)(hp:∀ s o,i<=s->s<m->ops[s]?=some o->(rR T O ops st0 s).put=none) :
  ∀ id,id<(A3 T O ops st0 i).1.nx->(A3 T O ops st0 m).1.H id=(A3 T O ops st0 i).1.H id:=by
 induction m with
 | zero=>grind
 | succ m ih =>
  by_cases hi:i=m+1
  ·grind
  ·intro id hid
   have h2:=ih (by omega) (by omega) (fun s o hs1 hs2=>hp s o hs1 (by omega)) id hid
   have hnx:=GV (T:=T) (O:=O) (ops:=ops) (st0:=st0) i m (by omega) (by omega)
   have ho:ops[m]?=some (ops[m]'(by omega)):=by grind
   rw[(FZ (T:=T) (O:=O) (st0:=st0) ho).2,Jn (.inl (by omega))]
   unfold Res.base
   rw[hp m _ (by omega) (by omega) ho]
   exact h2
theorem Adq {i j:Nat}{o:Oper}{ob:Ob}(ho:ops[i]?=some o)(hn:(rR T O ops st0 i).new[j]?=some ob) :
  (A3 T O ops st0 (i+1)).1.H ((A3 T O ops st0 i).1.nx+j)=ob:=by simp_all [FZ,Zt]
def AgS (D:Nat):Deferred:={ target:=.collected D,args:=#[] }
def PM (E:A0)(ds:List Deferred)(w:World):Prop:=E.lo<=w.heap.size/\∃ Ds:List Nat,ds=Ds.map AgS/\Ds.Nodup/\∀ D,D∈Ds->w.heap[D]?=some (.deferred (some []))/\E.fz D/\E.br D/\D ∉ Sc/\E.lo<=D
theorem PM.nil {E:A0}{w:World}(h:E.lo<=w.heap.size):PM E [] w:=⟨h,[],rfl,List.nodup_nil,fun _ h=>by cases h⟩
theorem PM.of {E E':A0}{ds:List Deferred}{w w':World}(h:PM E ds w)(hs:w.heap.size<=w'.heap.size)(hb:∀ k,k<w.heap.size->E.fz k->w'.heap[k]?=w.heap[k]?)(h1:∀ k,E.fz k->E'.fz k)(h2:∀ k,E.br k->E'.br k)(hl:E'.lo=E.lo):PM E' ds w':=by
 obtain⟨h0,Ds,e,hn,h⟩:=h
 refine⟨by omega,Ds,e,hn,fun D hD=>?_⟩
 grind
theorem PM.ext {E:A0}{ds:List Deferred}{w w':World}{φ φ':Phi}(h:PM E ds w)(hf:∀ k,Own φ k->¬ E.fz k)(e:Ext w φ w' φ'):PM E ds w' :=
 h.of e.size (fun k hk hz=>e.block k hk fun ho=>hf k ho hz) (fun _ h=>h) (fun _ h=>h) rfl
structure RI (P:Program) (T:TypeId->TE) (O:Nat->Orc) (ops:Array Oper) (st0:St) (N:Nat) (E:A0) (w0:World) (φ0:Phi) (D:Nat->Bool) (φ:Phi) (a:Act) (w:World):Prop where
 sz:a.tmps.size=N
 df:a.defers=E.ds/\∀ w φ,Ext w0 φ0 w φ->PM E E.ds w
 ext:Ext w0 φ0 w φ
 old:Old E φ w
 out:∀ t,(∀ (i:Nat) o,ops[i]?=some o->D i=true->o.dst≠some t)->V w (E.up φ) (some φ) (st0.t t) (a.tmps.getD t undef)
 inn:∀ (i:Nat) o t,ops[i]?=some o->D i=true->o.dst=some t->(rPc T O ops st0 i=true->V w (E.up φ) (some φ) (rR T O ops st0 i).val (a.tmps.getD t undef))/\(rPc T O ops st0 i=false->a.tmps.getD t undef=undef)
 al:∀ (i:Nat) o,ops[i]?=some o->D i=false->∀ j,j<(rR T O ops st0 i).new.length->φ ((A3 T O ops st0 i).1.nx+j)=none
 lv:∀ id,id<st0.nx->φ id≠none
 nw:∀ (i:Nat) o,ops[i]?=some o->D i=true->∀ j,j<(rR T O ops st0 i).new.length->φ ((A3 T O ops st0 i).1.nx+j)≠none
 st:∃ m,m<=ops.size/\(∀ (s:Nat) o,ops[s]?=some o->(rR T O ops st0 s).put≠none->(D s=true ↔ s<m))/\(m<ops.size->(rR T O ops st0 m).put≠none) /\
  HRel E (A3 T O ops st0 m).1.H φ w/\∀ id,(A3 T O ops st0 m).1.nx<=id->φ id=none
theorem OX (a:Act)(d:Option Nat)(v:Value)(t:Nat)(hd:∀ k,d=some k->k<a.tmps.size):(a.put d v).tmps.getD t undef=if d=some t then v else a.tmps.getD t undef:=by
 cases d with
 | none=>simp[Act.put]
 | some d =>
  have:=hd d rfl
  simp only[Act.put,Array.getD_eq_getD_getElem?,Option.some.injEq]
  grind
theorem Na {op:Op}{st:St}(h:DB st op=false):Ky op=false∨∃ t a cs,op=.load t a/\st.val a=.tp cs:=by
 unfold DB at h
 cases hl:Ky op with
 | false=>exact .inl rfl
 | true =>
  rw[hl]at h
  have h':tpB st op=true:=by simpa using h
  unfold tpB at h'
  grind
theorem Wp {O:Orc}{op:Op}{st:St}(h:Ky op=false):(vop T O st op).new=[]/\(vop T O st op).put=none:=by
 cases op<;>first | exact⟨rfl,rfl⟩ | cases h | skip
 case slice t x lo hi mx=>cases mx<;>exact⟨rfl,rfl⟩
 case call c =>
  simp only[vop,Ky]at h ⊢
  cases hc:c.callee with
  | value f=>rw[hc]at h;simp at h
  | invoke r n=>exact⟨rfl,rfl⟩
  | builtin b=>cases b<;>first | exact⟨rfl,rfl⟩ | (rw[hc]at h;simp at h)
theorem QH {O:Orc}{op:Op}{st:St}(h:DB st op=false):(vop T O st op).new=[]/\(vop T O st op).put=none:=by
 rcases Na h with h | ⟨t,a,cs,rfl,_⟩
 ·exact Wp h
 ·exact⟨rfl,rfl⟩
theorem AgT {O:Orc}{op:Op}{st:St}(h:(vop T O st op).new.length≠0∨(vop T O st op).put≠none):DB st op=true:=by grind [QH]
theorem Adz {O:Orc}{op:Op}{st:St}(h:Ky op=false)(H:Nat->Ob):vop T O { st with H:=H } op=vop T O st op:=by
 cases op<;>first | rfl | cases h | skip
 case slice t x lo hi mx=>cases mx<;>rfl
 case call c =>
  simp only[vop,Ky]at h ⊢
  cases hc:c.callee with
  | value f=>rw[hc]at h;simp at h
  | invoke r n=>rfl
  | builtin b=>cases b<;>first | rfl | (rw[hc]at h;simp at h)
theorem Agn {O:Orc}{op:Op}{st:St}(h:DB st op=false)(H:Nat->Ob):vop T O { st with H:=H } op=vop T O st op:=by
 rcases Na h with h | ⟨t,a,cs,rfl,hv⟩
 ·exact Adz h H
 ·have hv':St.val { st with H:=H } a=.tp cs:=by rw[← hv];cases a<;>rfl
  simp only[vop,hv,hv',II]
theorem Mb {st:St}{op:Op}{id:Nat}(h:CE st op=some id):∃ t a,op=.load t a/\id<st.nx/\((∃ o,st.val a=.bp id o)∨∃ g sz i o,st.val a=.ep id g sz i o):=by
 cases op<;>simp only[CE,reduceCtorEq]at h
 rename_i t a
 split at h
 ·rename_i j o hv
  cases hq:Nat.blt j st.nx with
  | false=>rw[hq]at h;cases h
  | true =>
   rw[hq]at h
   simp only[cond_true,Option.some.injEq]at h
   subst h
   exact⟨t,a,rfl,Nat.le_of_ble_eq_true hq,.inl ⟨o,hv⟩⟩
 ·rename_i j g sz i o hv
  cases hq:Nat.blt j st.nx with
  | false=>rw[hq]at h;cases h
  | true =>
   rw[hq]at h
   simp only[cond_true,Option.some.injEq]at h
   subst h
   exact⟨t,a,rfl,Nat.le_of_ble_eq_true hq,.inr ⟨g,sz,i,o,hv⟩⟩
 ·cases h
theorem Tm {O:Orc}{op:Op}{st:St}{id:Nat}(h:CE st op=some id):(vop T O st op).new=[]/\(vop T O st op).put=none:=by
 obtain⟨t,a,rfl,_⟩:=Mb h
 exact⟨rfl,rfl⟩
theorem AhK {O:Orc}{op:Op}{st:St}{id:Nat}(h:CE st op=some id){H:Nat->Ob}(hH:H id=st.H id):vop T O { st with H:=H } op=vop T O st op:=by
 obtain⟨t,a,rfl,_,hv⟩:=Mb h
 have e:St.val { st with H:=H } a=st.val a:=by cases a<;>rfl
 rcases hv with⟨o,hv⟩ | ⟨g,sz,i,o,hv⟩
 ·simp only[vop,e,hv,II,hH]
 ·simp only[vop,e,hv,II,hH]
def Nn (st:St)(op:Op):Bool:=DB st op&&(CE st op).isNone
theorem Ag1 {O:Orc}{op:Op}{st:St}(h:(vop T O st op).new.length≠0∨(vop T O st op).put≠none):Nn st op=true:=by
 unfold Nn
 rw[AgT h,Bool.true_and]
 cases hs:CE st op with
 | none=>rfl
 | some id =>
  grind [Tm]
theorem Xu (hdr:dr=true)(hG:∀ (j:Nat) o,ops[j]?=some o->Jo dr T O ops st0 j o){i s:Nat}{oi os:Oper}(hi:ops[i]?=some oi)(hp:(rR T O ops st0 i).put≠none)(hs:ops[s]?=some os)(hl:Nn (A3 T O ops st0 s).1 os.op=true) :
  (s<i->IB (Region.before ops) i s=true)/\(i<s->IB (Region.before ops) s i=true):=by
 unfold Nn at hl
 rw[Bool.and_eq_true,Option.isNone_iff_eq_none]at hl
 have hL:rL T O ops st0 s=true:=by simp only[rL,hs];exact hl.1
 have hS:rSo T O ops st0 s=none:=by simp only[rSo,hs];exact hl.2
 have hP:=Option.isSome_iff_ne_none.2 hp
 refine⟨fun h=>(hG i oi hi).ord hdr s h ?_,fun h=>(hG s os hs).ord hdr i h ?_⟩
 ·simp[X4,rFl,Res.flag,hP,hL,hS,esc]
 ·simp[X4,rFl,Res.flag,hP,hL,hS,esc]
theorem Uq (hdr:dr=true)(hG:∀ (j:Nat) o,ops[j]?=some o->Jo dr T O ops st0 j o){i s id:Nat}{oi os:Oper}(hi:ops[i]?=some oi)(hp:(rR T O ops st0 i).put≠none)(hs:ops[s]?=some os)(hl:DB (A3 T O ops st0 s).1 os.op=true)(hso:CE (A3 T O ops st0 s).1 os.op=some id) :
  esc (some id) (rTc T O ops st0 i)=true∨((s<i->IB (Region.before ops) i s=true)/\(i<s->IB (Region.before ops) s i=true)):=by
 have hL:rL T O ops st0 s=true:=by simp only[rL,hs];exact hl
 have hS:rSo T O ops st0 s=some id:=by simp only[rSo,hs];exact hso
 have hP:=Option.isSome_iff_ne_none.2 hp
 cases he:esc (some id) (rTc T O ops st0 i) with
 | true=>exact .inl rfl
 | false =>
  refine .inr ⟨fun h=>(hG i oi hi).ord hdr s h ?_,fun h=>(hG s os hs).ord hdr i h ?_⟩
  ·simp[X4,rFl,Res.flag,hP,hL,hS,he]
  ·simp[X4,rFl,Res.flag,hP,hL,hS,he]
theorem SP {T:TypeId->TE}{O:Orc}{st:St}{op:Op}{q:FuncId × List Nat × List Ob × List VV}(h:Jq O.lend st op=some q) :
  vop T O st op=(DN st (O.lend q.1) q.2.1 (O.run q.1 q.2.2.1 q.2.2.2).1.1 (O.run q.1 q.2.2.1 q.2.2.2).1.2).also (O.run q.1 q.2.2.1 q.2.2.2).2:=by
 cases op<;>simp only[Jq,reduceCtorEq]at h
 rename_i c
 split at h
 ·rename_i f hf
  simp only[vop,hf,Hd,h]
 ·cases h
theorem Ze : ∀ {ids:List Nat} {id:Nat},ids.any (Nat.beq id)=false->idx ids id=none
 | [],_,_=>rfl
 | i::is,id,h=>by
  simp only[List.any_cons,Bool.or_eq_false_iff]at h
  have hb:Nat.beq i id=false:=by
   cases hq:Nat.beq i id with
   | false=>rfl
   | true =>
    have:=Nat.eq_of_beq_eq_true hq
    subst this
    have h1:=h.1
    simp at h1
  simp only[idx,hb,cond_false,Ze h.2,Option.map_none]
theorem AcK {i id:Nat}(he:esc (some id) (rTc T O ops st0 i)=true):(rR T O ops st0 i).base (A3 T O ops st0 i).1 id=(A3 T O ops st0 i).1.H id:=by
 cases ho:ops[i]? with
 | none=>simp only[rTc,ho,esc]at he;cases he
 | some o =>
  simp only[rTc,ho]at he
  simp only[rR,ho]
  unfold EO at he
  split at he
  ·rename_i q hq
   cases hld:(O i).lend q.1 with
   | false=>rw[hld]at he;simp[esc]at he
   | true =>
    rw[hld]at he
    simp only[cond_true,esc,Bool.not_eq_true']at he
    rw[SP hq,hld]
    unfold Res.base Res.also DN
    cases hb:Nat.ble q.2.1.length ((O i).run q.1 q.2.2.1 q.2.2.2).1.1.length with
    | false=>rfl
    | true =>
     simp only[cond_true,Ze he]
  ·unfold AcP at he
   split at he
   ·rename_i t a x hop
    split at he
    ·rename_i id' off hv
     have hne:Nat.beq id id'=false:=by
      simp only[esc,List.any_cons,List.any_nil,Bool.or_false,Bool.not_eq_true']at he
      exact he
     rw[hop]
     simp only[vop,hv,G5,Res.base]
     cases (Nat.blt id' (A3 T O ops st0 i).1.nx&&(T t).k.known&&Nat.beq ((A3 T O ops st0 i).1.val x).cells.length (T t).sz&&((A3 T O ops st0 i).1.val x).cells.all VV.one) with
     | false=>rfl
     | true =>
      rw[cond_true]
      cases (A3 T O ops st0 i).1.H id' with
      | box cs =>
       cases hb:Nat.ble (off+((A3 T O ops st0 i).1.val x).cells.length) cs.length with
       | false=>simp only[hb,cond_false];rfl
       | true=>grind
      | _=>rfl
    ·simp[esc]at he
   ·simp[esc]at he
theorem OB {id:Nat}(i m:Nat)(him:i<=m)(hm:m<=ops.size)(hid:id<(A3 T O ops st0 i).1.nx)(hp:∀ s o,i<=s->s<m->ops[s]?=some o->(rR T O ops st0 s).put=none∨esc (some id) (rTc T O ops st0 s)=true) :
  (A3 T O ops st0 m).1.H id=(A3 T O ops st0 i).1.H id:=by
 induction m with
 | zero=>(obtain rfl:i=0:=(by omega));rfl
 | succ m ih =>
  by_cases hi:i=m+1
  ·subst hi;rfl
  ·have h2:=ih (by omega) (by omega) (fun s o hs1 hs2=>hp s o hs1 (by omega))
   have hnx:=GV (T:=T) (O:=O) (ops:=ops) (st0:=st0) i m (by omega) (by omega)
   have ho:ops[m]?=some (ops[m]'(by omega)):=by simp[show m<ops.size by omega]
   rw[(FZ (T:=T) (O:=O) (st0:=st0) ho).2,Jn (.inl (by omega))]
   rcases hp m _ (by omega) (by omega) ho with h | h
   ·unfold Res.base
    rw[h]
    exact h2
   ·rw[AcK h];exact h2
end
end
section
section
variable {dr : Bool} {P:Program} {T:TypeId->TE} {O:Nat->Orc} {ops:Array Oper} {st0:St} {M:Array Nat} {N:Nat} {E:A0} {w0:World} {φ0:Phi} {D:Nat->Bool} {φ:Phi} {a:Act} {w:World}
def LF (D:Nat->Bool)(i:Nat)(j:Nat):Bool:=j==i||D j
theorem D6 {i j:Nat}:LF D i j=true ↔ j=i∨D j=true:=by simp[LF]
section
variable (hR : Kb ops M N) (hG:∀ (j:Nat) o,ops[j]?=some o->Jo dr T O ops st0 j o)
include hR hG
omit hR in
theorem NW {i:Nat}{o:Oper}(ho:ops[i]?=some o)(hg:o.guard=none):rPc T O ops st0 i=true:=by
 have:=(hG i o ho).pc
 simp only[Kg,hg,Option.some.injEq]at this
 exact this.symm
theorem NV {i k:Nat}{want:Bool}{o:Oper}(ho:ops[i]?=some o)(hg:o.guard=some (k,want)) :
  ∃ ok d b,ops[k]?=some ok/\ok.dst=some d/\(rR T O ops st0 k).val=.sc (.bool b)/\k<i/\rPc T O ops st0 i=(rPc T O ops st0 k&&(b==want)):=by
 have hgd:=(hG i o ho).pc
 obtain⟨hki,_⟩:=hR.guard i o k want ho hg
 have hi:=(Array.getElem?_eq_some_iff.1 ho).1
 have hok:ops[k]?=some (ops[k]'(by omega)):=by simp[show k<ops.size by omega]
 have hp:=(Tv (T:=T) (O:=O) (ops:=ops) (st0:=st0) i (by omega)).2 k hki
 simp only[Kg,hg,hp,hok,Option.bind_some]at hgd
 split at hgd
 ·rename_i p d e1 e2
  simp only[Option.some.injEq]at e1
  subst e1
  split at hgd
  ·rename_i b hb
   simp only[Option.some.injEq]at hgd
   rw[IW hok e2 i (by omega) hki (fun k' o' _ hne ho' hd'=>hne (hR.uniq k' k o' _ d ho' hok hd' e2))]at hb
   refine⟨_,d,b,hok,e2,?_,hki,hgd.symm⟩
   unfold AfL at hb
   split at hb
   ·rename_i b' e3;simp only[Option.some.injEq]at hb;subst hb;exact e3
   ·cases hb
  ·cases hgd
 ·cases hgd
theorem Zg : ∀ (f i j:Nat),i<ops.size->j<ops.size->LU ops f i j=true->rPc T O ops st0 i=true->rPc T O ops st0 j=true
 | 0,_,_,_,_,h,_=>by cases h
 | f+1,i,j,hi,hj,h,hp=>by
  have hoi:ops[i]?=some (ops[i]'hi):=by simp[hi]
  have hoj:ops[j]?=some (ops[j]'hj):=by simp[hj]
  simp only[LU,hoi,hoj,Option.bind_some]at h
  split at h
  ·rename_i hg;exact NW hG hoj hg
  ·rename_i g hg
   split at h
   ·cases h
   ·rename_i h0 hg0
    rw[Bool.or_eq_true]at h
    obtain⟨k,w1⟩:=h0
    obtain⟨k2,w2⟩:=g
    obtain⟨ok,d,b,h1,h2,h3,h4,h5⟩:=NV hR hG hoi hg0
    rcases h with h | h
    ·have e:(k,w1)=(k2,w2):=by simpa using h
     simp only[Prod.mk.injEq]at e
     obtain⟨rfl,rfl⟩:=e
     obtain⟨ok',d',b',h1',h2',h3',h4',h5'⟩:=NV hR hG hoj hg
     rw[h3]at h3'
     simp only[VV.sc.injEq,Value.bool.injEq]at h3'
     subst h3'
     rw[h5',← h5];exact hp
    ·rw[h5,Bool.and_eq_true]at hp
     exact Zg f k j (by omega) hj h hp.1
end
theorem NT (hR:Kb ops M N)(hcl:MU ops D)(h:RI P T O ops st0 N E w0 φ0 D φ a w){i:Nat}{o:Oper}(ho:ops[i]?=some o)(hi:D i=false)(hdeps:∀ e∈o.after,Region.binds .any e=true->D e.on=true)
  {ok:Nat->Bool} {y:Operand} (hrd:Aco ops M i ok y) (hok:∀ j,j<ops.size->ok j=true->rPc T O ops st0 j=true):V w (E.up φ) (some φ) ((A3 T O ops st0 i).1.val y) (a.eval y):=by
 have hil:=(Array.getElem?_eq_some_iff.1 ho).1
 cases y with
 | const v=>exact V.litC v
 | global g=>exact .dead
 | func f=>exact .fn rfl fun j x hx=>by simp at hx
 | tmp t =>
  show V w _ _ ((A3 T O ops st0 i).1.t t) (a.tmps.getD t undef)
  by_cases hex:∃ j oj,ops[j]?=some oj/\oj.dst=some t/\j≠i
  ·obtain⟨j,oj,hj,hd,hne⟩:=hex
   have hjl:=(Array.getElem?_eq_some_iff.1 hj).1
   obtain⟨h1,h2⟩:=hrd t rfl j oj hj hd hne
   rcases Nat.lt_or_ge j i with hlt | hge
   ·obtain⟨hm,hk⟩:=h1 hlt
    have hDj:=DA hR hcl i o j ho hdeps hjl hm
    rw[IW hj hd i (by omega) hlt (fun k' o' _ hne' ho' hd'=>hne' (hR.uniq k' j o' oj t ho' hj hd' hd))]
    exact(h.inn j oj t hj hDj hd).1 (hok j hjl hk)
   ·have hgt:i<j:=by omega
    have hm:=h2 hgt
    have hDj:D j=false:=by
     cases hq:D j with
     | false=>rfl
     | true =>
      have:=DA hR hcl j oj i hj (fun e he hb=>hcl j oj e hj hq he hb) hil hm
      rw[hi]at this;cases this
    rw[Lv i (by omega) (fun k' o' hk' ho' hd'=>by have:=hR.uniq k' j o' oj t ho' hj hd' hd;omega)]
    exact h.out t fun k' o' ho' hD' hd'=>by
     have:=hR.uniq k' j o' oj t ho' hj hd' hd
     subst this
     rw[hDj]at hD';cases hD'
  ·have hno:∀ (k':Nat) o',ops[k']?=some o'->o'.dst=some t->k'=i:=fun k' o' ho' hd'=>Classical.byContradiction fun hne=>hex ⟨k',o',ho',hd',hne⟩
   rw[Lv i (by omega) (fun k' o' hk' ho' hd'=>by have:=hno k' o' ho' hd';omega)]
   exact h.out t fun k' o' ho' hD' hd'=>by
    have:=hno k' o' ho' hd'
    subst this
    rw[hi]at hD';cases hD'
theorem Zv (hR:Kb ops M N)(hG:∀ (j:Nat) o,ops[j]?=some o->Jo dr T O ops st0 j o)(hcl:MU ops D)(h:RI P T O ops st0 N E w0 φ0 D φ a w){i:Nat}{o:Oper}(ho:ops[i]?=some o)
  (hdeps:∀ e∈o.after,Region.binds .any e=true->D e.on=true):Region.wanted o (yielded ops a.tmps)=rPc T O ops st0 i:=by
 have hil:=(Array.getElem?_eq_some_iff.1 ho).1
 unfold Region.wanted
 cases hg:o.guard with
 | none=>simp only;exact(NW hG ho hg).symm
 | some g =>
  obtain⟨k,want⟩:=g
  obtain⟨ok,d,b,h1,h2,h3,h4,h5⟩:=NV hR hG ho hg
  have hDk:=DA hR hcl i o k ho hdeps (by omega) (hR.guard i o k want ho hg).2
  obtain⟨g1,g2⟩:=h.inn k ok d h1 hDk h2
  have hd:d<a.tmps.size:=by rw[h.sz];exact hR.dst k ok d h1 h2
  have hget:a.tmps[d]?=some (a.tmps.getD d undef):=by simp[Array.getD,hd]
  simp only[yielded,h1,Option.bind_some,h2,hget]
  rw[h5]
  cases hp:rPc T O ops st0 k with
  | true =>
   have:=g1 hp
   rw[h3]at this
   rw[this.sc_inv]
   simp only[Bool.true_and]
   cases b<;>cases want<;>rfl
  | false =>
   rw[g2 hp]
   rfl
end
end
section
section
variable {dr : Bool} {P:Program} {T:TypeId->TE} {O:Nat->Orc} {ops:Array Oper} {st0:St} {M:Array Nat} {N:Nat} {E:A0} {w0:World} {φ0:Phi} {D:Nat->Bool} {φ:Phi} {a:Act} {w:World}
theorem RI.more (hR:Kb ops M N)(h:RI P T O ops st0 N E w0 φ0 D φ a w){i:Nat}{o:Oper}(ho:ops[i]?=some o){φ':Phi}{w':World}{v:Value}(he:Ext w φ w' φ')
  (hv1:rPc T O ops st0 i=true->V w' (E.up φ') (some φ') (rR T O ops st0 i).val v) (hv2:rPc T O ops st0 i=false->v=undef)
  (hphi:∀ id,φ' id≠none ↔ φ id≠none∨((A3 T O ops st0 i).1.nx<=id/\id<(A3 T O ops st0 i).1.nx+(rR T O ops st0 i).new.length))
  (hst:∃ m,m<=ops.size/\(∀ (s:Nat) o,ops[s]?=some o->(rR T O ops st0 s).put≠none->(LF D i s=true ↔ s<m))/\(m<ops.size->(rR T O ops st0 m).put≠none) /\
   HRel E (A3 T O ops st0 m).1.H φ' w'/\∀ id,(A3 T O ops st0 m).1.nx<=id->φ' id=none) :
  RI P T O ops st0 N E w0 φ0 (LF D i) φ' (a.put o.dst v) w':=by
 have hd:∀ k,o.dst=some k->k<a.tmps.size:=fun k hk=>by rw[h.sz];exact hR.dst i o k ho hk
 refine⟨?_,?_,h.ext.trans he,h.old.ext he,fun t ht=>?_,fun j oj t hj hD hdj=>?_,fun j oj hj hD jj hjj=>?_,fun id hid=>(hphi id).2 (.inl (h.lv id hid)),fun j oj hj hD jj hjj=>?_,hst⟩
 ·rw[← h.sz];cases o.dst<;>simp[Act.put]
 ·exact⟨(by cases o.dst<;>rfl:(a.put o.dst v).defers=a.defers).trans h.df.1,h.df.2⟩
 ·rw[OX a _ v t hd,if_neg (ht i o ho (D6.2 (.inl rfl)))]
  exact(h.out t fun j oj hj hD=>ht j oj hj (D6.2 (.inr hD))).ext he
 ·by_cases hji:j=i
  ·subst hji
   rw[ho]at hj
   simp only[Option.some.injEq]at hj
   subst hj
   rw[OX a _ v t hd,if_pos hdj]
   exact⟨hv1,hv2⟩
  ·have hDj:D j=true:=(D6.1 hD).resolve_left hji
   have hne:o.dst≠some t:=fun e=>hji (hR.uniq j i oj o t hj ho hdj e)
   rw[OX a _ v t hd,if_neg hne]
   obtain⟨h1,h2⟩:=h.inn j oj t hj hDj hdj
   exact⟨fun hp=>(h1 hp).ext he,h2⟩
 ·have hne:j≠i:=by rintro rfl;rw[D6.2 (.inl rfl)]at hD;cases hD
  have hDj:D j=false:=by
   cases hq:D j with
   | false=>rfl
   | true=>rw[D6.2 (.inr hq)]at hD;cases hD
  have hjl:=(Array.getElem?_eq_some_iff.1 hj).1
  have hil:=(Array.getElem?_eq_some_iff.1 ho).1
  apply Classical.byContradiction
  intro hn
  rcases(hphi _).1 hn with h1 | ⟨h1,h2⟩
  ·exact h1 (h.al j oj hj hDj jj hjj)
  ·rcases Nat.lt_or_ge j i with hlt | hge
   ·have a1:=(FZ (T:=T) (O:=O) (st0:=st0) hj).1
    have a2:=GV (T:=T) (O:=O) (ops:=ops) (st0:=st0) (j+1) i (by omega) (by omega)
    omega
   ·have a1:=(FZ (T:=T) (O:=O) (st0:=st0) ho).1
    have a2:=GV (T:=T) (O:=O) (ops:=ops) (st0:=st0) (i+1) j (by omega) (by omega)
    omega
 ·rcases D6.1 hD with rfl | hDj
  ·exact(hphi _).2 (.inr ⟨by omega,by omega⟩)
  ·exact(hphi _).2 (.inl (h.nw j oj hj hDj jj hjj))
theorem RI.live (h:RI P T O ops st0 N E w0 φ0 D φ a w){i:Nat}(hi:i<=ops.size)(hD:∀ s o,s<i->ops[s]?=some o->Nn (A3 T O ops st0 s).1 o.op=true->D s=true):∀ id,id<(A3 T O ops st0 i).1.nx->φ id≠none:=by
 induction i with
 | zero=>exact fun id hid=>h.lv id hid
 | succ i ih =>
  intro id hid
  have ho:ops[i]?=some (ops[i]'(by omega)):=by simp[show i<ops.size by omega]
  have e:=(FZ (T:=T) (O:=O) (st0:=st0) ho).1
  rcases Nat.lt_or_ge id (A3 T O ops st0 i).1.nx with hlt | hge
  ·exact ih (by omega) (fun s o hs=>hD s o (by omega)) id hlt
  ·have hl:Nn (A3 T O ops st0 i).1 (ops[i]'(by omega)).op=true:=by
    have hr:rR T O ops st0 i=vop T (O i) (A3 T O ops st0 i).1 (ops[i]'(by omega)).op:=by simp only[rR,ho]
    refine Ag1 (T:=T) (O:=O i) (st:=(A3 T O ops st0 i).1) (.inl ?_)
    rw[← hr];omega
   have:=h.nw i _ ho (hD i _ (by omega) ho hl) (id - (A3 T O ops st0 i).1.nx) (by omega)
   rw[show(A3 T O ops st0 i).1.nx+(id - (A3 T O ops st0 i).1.nx)=id by omega]at this
   exact this
theorem Sa : ∀ (n k:Nat),k+n=ops.size->∃ m',k<=m'/\m'<=ops.size/\(∀ s,k<=s->s<m'->(rR T O ops st0 s).put=none)/\(m'<ops.size->(rR T O ops st0 m').put≠none)
 | 0,k,hk=>⟨k,Nat.le_refl _,by omega,fun s h1 h2=>by omega,fun h=>by omega⟩
 | n+1,k,hk=>by
  by_cases hq:(rR T O ops st0 k).put=none
  ·obtain⟨m',a1,a2,a3,a4⟩:=Sa n (k+1) (by omega)
   refine⟨m',by omega,a2,fun s h1 h2=>?_,a4⟩
   by_cases hsk:s=k
   ·subst hsk;exact hq
   ·exact a3 s (by omega) h2
  ·exact⟨k,Nat.le_refl _,by omega,fun s h1 h2=>by omega,fun _=>hq⟩
theorem RI.step (hT:TOk P T)(hO:∀ i,Iz P (O i))(hR:Kb ops (Region.before ops) N)(hG:∀ (j:Nat) o,ops[j]?=some o->Jo dr T O ops st0 j o)(hcl:MU ops D)(h:RI P T O ops st0 N E w0 φ0 D φ a w){i:Nat}{o:Oper}(ho:ops[i]?=some o)(hi:D i=false)
  (hdeps:∀ e∈o.after,Region.binds .any e=true->D e.on=true) (hsq:dr=false->∀ s,s<ops.size->(D s=true ↔ s<i)) {K:Act->World->Prop} {Q:Exit->Act->World->Prop} (hK:∀ φ' a' w',RI P T O ops st0 N E w0 φ0 (LF D i) φ' a' w'->K a' w'):wpOp P ops Q i K a w:=by
 have hil:=(Array.getElem?_eq_some_iff.1 ho).1
 have hwant:=Zv hR hG hcl h ho hdeps
 have hr:rR T O ops st0 i=vop T (O i) (A3 T O ops st0 i).1 o.op:=by simp only[rR,ho]
 unfold wpOp
 simp only[ho]
 rw[hwant]
 obtain⟨m,hm,hput,hmp,hH,hfr⟩:=h.st
 have stay:(rR T O ops st0 i).put=none->∀ (s:Nat) o',ops[s]?=some o'->(rR T O ops st0 s).put≠none->(LF D i s=true ↔ s<m):=fun hnp s o' hs hp=>by
  rw[D6]
  constructor
  ·rintro(rfl | hD)
   ·exact absurd hnp hp
   ·exact(hput s o' hs hp).1 hD
  ·intro hlt;exact .inr ((hput s o' hs hp).2 hlt)
 have still:(rR T O ops st0 i).new=[]->∀ id,φ id≠none ↔ φ id≠none∨((A3 T O ops st0 i).1.nx<=id/\id<(A3 T O ops st0 i).1.nx+(rR T O ops st0 i).new.length):=fun hn id=>by
  rw[hn]
  exact⟨.inl,fun h=>h.resolve_right (by simp only[List.length_nil];omega)⟩
 cases hpc:rPc T O ops st0 i with
 | false =>
  simp only[Bool.false_eq_true,if_false]
  have hg:o.guard≠none:=fun e=>by rw[NW hG ho e]at hpc;cases hpc
  obtain⟨hnn,hnp⟩:=(hG i o ho).plain hg
  exact hK φ _ _ (h.more hR ho (Ext.refl _ _) (fun e=>by rw[hpc]at e;cases e) (fun _=>rfl) (still hnn) ⟨m,hm,stay hnp,hmp,hH,hfr⟩)
 | true =>
  simp only[if_true]
  refine .inl ?_
  have hchk:=(hG i o ho).chk hpc
  have hreads:∀ (H:Nat->Ob),AfS w E φ { (A3 T O ops st0 i).1 with H:=H } a o.op:=by
   intro H
   have hgi:∀ j,j<ops.size->LU ops ops.size i j=true->rPc T O ops st0 j=true:=fun j hj hg=>Zg hR hG _ i j hil hj hg hpc
   have hval:∀ y,St.val { (A3 T O ops st0 i).1 with H:=H } y=(A3 T O ops st0 i).1.val y:=by intro y;cases y<;>rfl
   by_cases hpk:∃ c x y,o.op=.pick c x y
   ·obtain⟨c,x,y,e⟩:=hpk
    obtain⟨r1,r2,r3⟩:=hR.pick i o c x y ho e
    rw[e]
    have hc:=NT hR hcl h ho hi hdeps r1 hgi
    have hpick:∀ (want:Bool) j,a.eval c=.bool want->j<ops.size->(LU ops ops.size i j||pickOk ops ops.size i c want j)=true->rPc T O ops st0 j=true:=by
     intro want j hev hj hq
     rw[Bool.or_eq_true]at hq
     rcases hq with hq | hq
     ·exact hgi j hj hq
     ·unfold pickOk at hq
      split at hq
      ·rename_i k w' t hgj
       simp only[Bool.and_eq_true]at hq
       obtain⟨⟨⟨q1,q2⟩,q3⟩,q4⟩:=hq
       have hw':w'=want:=by simpa using q1
       subst hw'
       have hoj:ops[j]?=some (ops[j]'hj):=by simp[hj]
       rw[hoj,Option.bind_some]at hgj
       obtain⟨ok,d,b,h1,h2,h3,h4,h5⟩:=NV hR hG hoj hgj
       rw[h1,Option.bind_some,h2]at q2
       have hdt:d=t:=by simpa using q2
       subst hdt
       have hki:=Nat.le_of_ble_eq_true q4
       have hpk:=hgi k (by omega) q3
       have hv:(A3 T O ops st0 i).1.val (.tmp d)=.sc (.bool b):=by
        show(A3 T O ops st0 i).1.t d=_
        rw[IW h1 h2 i (by omega) hki (fun k' o' _ hne' ho' hd'=>hne' (hR.uniq k' k o' ok d ho' h1 hd' h2))]
        exact h3
       rw[hv]at hc
       have hb:=hc.sc_inv
       rw[hev]at hb
       simp only[Value.bool.injEq]at hb
       rw[h5,hpk,hb]
       simp
      ·cases hq
    refine⟨by rw[hval];exact hc,fun hev=>?_,fun hev=>?_⟩
    ·rw[hval];exact NT hR hcl h ho hi hdeps r2 fun j hj hq=>hpick true j hev hj hq
    ·rw[hval];exact NT hR hcl h ho hi hdeps r3 fun j hj hq=>hpick false j hev hj hq
   ·have hnp:∀ c x y,o.op≠.pick c x y:=fun c x y e=>hpk ⟨c,x,y,e⟩
    have hall:∀ y∈o.op.operands.toList,V w (E.up φ) (some φ) (St.val { (A3 T O ops st0 i).1 with H:=H } y) (a.eval y):=by
     intro y hy
     rw[hval]
     exact NT hR hcl h ho hi hdeps (hR.reads i o ho hnp y hy) hgi
    cases hop:o.op<;>first | (rw[hop]at hall;exact hall) | exact absurd hop (hnp _ _ _)
  cases hl:DB (A3 T O ops st0 i).1 o.op with
  | false =>
   obtain⟨hnn,hnp⟩:=QH (T:=T) (O:=O i) (st:=(A3 T O ops st0 i).1) hl
   rw[← hr]at hnn hnp
   have hvop:vop T (O i) { (A3 T O ops st0 i).1 with H:=(A3 T O ops st0 m).1.H } o.op=rR T O ops st0 i:=by rw[Agn hl,hr]
   have hok:=Vn (st:={ (A3 T O ops st0 i).1 with H:=(A3 T O ops st0 m).1.H }) hT (hO i) hH (fun _ _=>rfl) h.old (hreads _) (by rw[hvop];exact hchk)
   rw[hvop]at hok
   rcases hok with⟨_,hq⟩ | ⟨H',h1,_⟩
   ·refine hq (fun j hj=>by rw[hnn]at hj;simp at hj) _ _ fun v w' pls hn hV=>?_
    have hpl:pls=[]:=List.eq_nil_of_length_eq_zero (by rw[hn.len,hnn];rfl)
    subst hpl
    rw[FO]at hV
    exact hK φ _ _ (h.more hR ho (Ext.of_below hn.below) (fun _=>hV) (fun e=>by rw[hpc]at e;cases e) (still hnn) ⟨m,hm,stay hnp,hmp,hH.below hn.below,hfr⟩)
   ·rw[hnp]at h1;cases h1
  | true =>
  cases hso:CE (A3 T O ops st0 i).1 o.op with
  | some id =>
   obtain⟨hnn,hnp⟩:=Tm (T:=T) (O:=O i) hso
   rw[← hr]at hnn hnp
   have hid:φ id≠none/\id<(A3 T O ops st0 i).1.nx:=by
    obtain⟨t,x,hop,hlt,hv⟩:=Mb hso
    refine⟨?_,hlt⟩
    have hx:=hreads (A3 T O ops st0 i).1.H
    rw[hop]at hx
    have hx':V w (E.up φ) (some φ) ((A3 T O ops st0 i).1.val x) (a.eval x):=hx x (by simp[Op.operands])
    rcases hv with⟨off,hv⟩ | ⟨g,sz,j,off,hv⟩
    ·rw[hv]at hx'
     obtain⟨b,hb,_⟩:=hx'.bp_inv
     rw[hb];simp
    ·rw[hv]at hx'
     obtain⟨c,len,hd,b,hb,_⟩:=hx'.ep_inv
     rw[hb];simp
   have hidm:id<(A3 T O ops st0 m).1.nx:=by
    rcases Nat.lt_or_ge id (A3 T O ops st0 m).1.nx with h' | h'
    ·exact h'
    ·exact absurd (hfr id h') hid.1
   have hsame:(A3 T O ops st0 m).1.H id=(A3 T O ops st0 i).1.H id:=by
    rcases Nat.le_total i m with him | hmi
    ·refine OB i m him hm hid.2 fun s os hs1 hs2 hs=>?_
     by_cases hq:(rR T O ops st0 s).put=none
     ·exact .inl hq
     ·have hDs:=(hput s os hs hq).2 hs2
      have hsi:s≠i:=by rintro rfl;exact hq hnp
      have hsl:=(Array.getElem?_eq_some_iff.1 hs).1
      cases hdr:dr with
      | false=>have:=(hsq hdr s hsl).1 hDs;omega
      | true =>
       rcases Uq hdr hG hs hq ho hl hso with h' | ⟨h',_⟩
       ·exact .inr h'
       ·have hb:=h' (by omega)
        have:=DA hR hcl s os i hs (fun e he hb'=>hcl s os e hs hDs he hb') hil hb
        rw[hi]at this;cases this
    ·refine(OB m i hmi (Nat.le_of_lt hil) hidm fun s os hs1 hs2 hs=>?_).symm
     by_cases hq:(rR T O ops st0 s).put=none
     ·exact .inl hq
     ·have hDs:¬ D s=true:=fun hD=>by have:=(hput s os hs hq).1 hD;omega
      have hsl:=(Array.getElem?_eq_some_iff.1 hs).1
      cases hdr:dr with
      | false=>exact absurd ((hsq hdr s hsl).2 hs2) hDs
      | true =>
       rcases Uq hdr hG hs hq ho hl hso with h' | ⟨_,h'⟩
       ·exact .inr h'
       ·exact absurd (DA hR hcl i o s ho hdeps hsl (h' hs2)) hDs
   have hvop:vop T (O i) { (A3 T O ops st0 i).1 with H:=(A3 T O ops st0 m).1.H } o.op=rR T O ops st0 i:=by rw[AhK hso hsame,hr]
   have hok:=Vn (st:={ (A3 T O ops st0 i).1 with H:=(A3 T O ops st0 m).1.H }) hT (hO i) hH (fun _ _=>rfl) h.old (hreads _) (by rw[hvop];exact hchk)
   rw[hvop]at hok
   rcases hok with⟨_,hq⟩ | ⟨H',h1,_⟩
   ·refine hq (fun j hj=>by rw[hnn]at hj;simp at hj) _ _ fun v w' pls hn hV=>?_
    have hpl:pls=[]:=List.eq_nil_of_length_eq_zero (by rw[hn.len,hnn];rfl)
    subst hpl
    rw[FO]at hV
    exact hK φ _ _ (h.more hR ho (Ext.of_below hn.below) (fun _=>hV) (fun e=>by rw[hpc]at e;cases e) (still hnn) ⟨m,hm,stay hnp,hmp,hH.below hn.below,hfr⟩)
   ·rw[hnp]at h1;cases h1
  | none =>
   have hhd:Nn (A3 T O ops st0 i).1 o.op=true:=by unfold Nn;rw[hl,hso];rfl
   have him:i<=m:=by
    rcases Nat.lt_or_ge m i with hlt | hge
    ·exfalso
     have hml:m<ops.size:=by omega
     have hom:ops[m]?=some (ops[m]'hml):=by simp[hml]
     have hpm:=hmp hml
     have:D m=true:=by
      cases hdr:dr with
      | false=>exact(hsq hdr m hml).2 hlt
      | true=>exact DA hR hcl i o m ho hdeps (by omega) ((Xu hdr hG hom hpm ho hhd).2 hlt)
     have:=(hput m _ hom hpm).1 this
     omega
    ·exact hge
   have hnop:(rR T O ops st0 i).put=none->∀ s o',i<=s->s<m->ops[s]?=some o'->(rR T O ops st0 s).put=none:=by
    intro hip s o' hs1 hs2 hs
    apply Classical.byContradiction
    intro hq
    have hDs:=(hput s o' hs hq).2 hs2
    by_cases hsi:s=i
    ·subst hsi;exact hq hip
    ·cases hdr:dr with
     | false=>have:=(hsq hdr s (by omega)).1 hDs;omega
     | true =>
      have hb:=(Xu hdr hG hs hq ho hhd).1 (by omega)
      have:=DA hR hcl s o' i hs (fun e he hb'=>hcl s o' e hs hDs he hb') hil hb
      rw[hi]at this;cases this
   have key:∀ {Hc:Nat->Ob},HRel E Hc φ w->(∀ id,id<(A3 T O ops st0 i).1.nx->Hc id=(A3 T O ops st0 i).1.H id)->_:=fun{Hc} hHc hk =>
    Vn (st:=(A3 T O ops st0 i).1) (o:=o) (a:=a) (Hc:=Hc) hT (hO i) hHc hk h.old (hreads _) (by rw[← hr];exact hchk)
   by_cases hip:(rR T O ops st0 i).put=none
   ·have hnop':=hnop hip
    have hkeep:=JC (T:=T) (O:=O) (st0:=st0) i m him hm hnop'
    have hok:=key hH hkeep
    rw[← hr]at hok
    rcases hok with⟨_,hq⟩ | ⟨H',h1,_⟩
    ·have hal:=h.al i o ho hi
     refine hq hal _ _ fun v w' pls hn hV=>?_
     have hext:=hn.ext hal
     have hphi:∀ id,addP φ (A3 T O ops st0 i).1.nx pls id≠none ↔ φ id≠none∨((A3 T O ops st0 i).1.nx<=id/\id<(A3 T O ops st0 i).1.nx+(rR T O ops st0 i).new.length):=by
      intro id
      rw[← hn.len]
      by_cases hc:(A3 T O ops st0 i).1.nx<=id/\id<(A3 T O ops st0 i).1.nx+pls.length
      ·refine⟨fun _=>.inr hc,fun _=>?_⟩
       unfold addP
       rw[if_pos hc,List.getElem?_eq_getElem (by omega)]
       simp
      ·unfold addP
       rw[if_neg hc]
       exact⟨.inl,fun h=>h.resolve_right hc⟩
     have him1:i+1<=m:=by
      rcases Nat.lt_or_ge i m with hlt | hge
      ·exact hlt
      ·exfalso
       obtain rfl:i=m:=by omega
       exact hmp hil hip
     have n4:=JC (T:=T) (O:=O) (st0:=st0) (i+1) m him1 hm (fun s o' hs1 hs2 hs=>hnop' s o' (by omega) hs2 hs)
     have n5:=GV (T:=T) (O:=O) (ops:=ops) (st0:=st0) (i+1) m him1 hm
     have n6:=(FZ (T:=T) (O:=O) (st0:=st0) ho).1
     refine hK _ _ _ (h.more hR ho hext (fun _=>hV) (fun e=>by rw[hpc]at e;cases e) hphi ⟨m,hm,stay hip,hmp,hH.news h.old.lt hn hal (fun _ _=>rfl) (fun j ob hj=>?_),fun k hk=>?_⟩)
     ·have hjl:=(List.getElem?_eq_some_iff.1 hj).1
      rw[n4 _ (by omega)]
      exact Adq ho hj
     ·rw[Er (.inr (by rw[hn.len];omega))]
      exact hfr k (by omega)
    ·rw[hip]at h1;cases h1
   ·
    have hmi:m=i:=by
     rcases Nat.lt_or_ge i m with hlt | hge
     ·have:=(hput i o ho hip).2 hlt;rw[hi]at this;cases this
     ·omega
    subst hmi
    have hok:=key hH (fun _ _=>rfl)
    rw[← hr]at hok
    rcases hok with⟨h1,_⟩ | ⟨H',h1,hq⟩
    ·exact absurd h1 hip
    have hlive:=h.live hm (fun s o' hs hos hl'=>by
     cases hdr:dr with
     | false=>exact(hsq hdr s (by omega)).2 hs
     | true =>
      have:=(Xu hdr hG ho hip hos hl').1 hs
      exact DA hR hcl m o s ho hdeps (by omega) this)
    obtain⟨m',hm1,hm2,hm3,hm4⟩:∃ m',m<m'/\m'<=ops.size/\(∀ s,m<s->s<m'->(rR T O ops st0 s).put=none)/\(m'<ops.size->(rR T O ops st0 m').put≠none):=by
     obtain⟨m',a1,a2,a3,a4⟩:=Sa (T:=T) (O:=O) (ops:=ops) (st0:=st0) (ops.size - (m+1)) (m+1) (by omega)
     exact⟨m',by omega,a2,fun s h1 h2=>a3 s (by omega) h2,a4⟩
    have n4:=JC (T:=T) (O:=O) (st0:=st0) (m+1) m' hm1 hm2 (fun s o' hs1 hs2 hs=>hm3 s (by omega) hs2)
    have n5:=GV (T:=T) (O:=O) (ops:=ops) (st0:=st0) (m+1) m' hm1 hm2
    obtain⟨n6,n7⟩:=FZ (T:=T) (O:=O) (st0:=st0) ho
    have hbase:(rR T O ops st0 m).base (A3 T O ops st0 m).1=H':=by unfold Res.base;rw[h1]
    rw[hbase]at n7
    refine hq hfr hlive hH _ _ fun v w' φ' g1 g2 g3 g4=>?_
    have hin:∀ k,φ' k≠none->k<(A3 T O ops st0 (m+1)).1.nx:=by
     intro k hk
     rcases(g3 k).1 hk with h' | h'
     ·rcases Nat.lt_or_ge k (A3 T O ops st0 m).1.nx with h'' | h''
      ·omega
      ·exact absurd (hfr k h'') h'
     ·omega
    refine hK _ _ _ (h.more hR ho g2 (fun _=>g4) (fun e=>absurd e (by rw[hpc];simp)) g3 ⟨m',hm2,fun s o' hs' hp=>?_,hm4,g1.congr fun k hk=>?_,fun k hk=>?_⟩)
    ·rw[D6]
     constructor
     ·rintro(rfl | hD)
      ·exact hm1
      ·have:=(hput s o' hs' hp).1 hD;omega
     ·intro hlt
      by_cases hsm:s=m
      ·exact .inl hsm
      ·rcases Nat.lt_or_ge s m with h' | h'
       ·exact .inr ((hput s o' hs' hp).2 h')
       ·exact absurd (hm3 s (by omega) hlt) hp
    ·rw[n4 k (hin k hk),n7]
    ·apply Classical.byContradiction
     intro hk'
     have:=hin k hk'
     omega
end
end
section
structure Rel (N:Nat) (E:A0) (st:St) (φ:Phi) (a:Act) (w:World):Prop where
 sz:a.tmps.size=N
 df:a.defers=E.ds/\PM E E.ds w
 old:Old E φ w
 tm:∀ t,V w (E.up φ) (some φ) (st.t t) (a.tmps.getD t undef)
 hp:HRel E st.H φ w
 fr:∀ id,st.nx<=id->φ id=none
 lv:∀ id,id<st.nx->φ id≠none
def AbO (ops:Array Oper):List Nat:=ops.toList.filterMap fun o=>bif o.guard.isSome then o.dst else none
def clr (ops:Array Oper)(st:St):St :=
 match AbO ops with
 | []=>st
 | l=>{ st with t:=fun i=>bif l.any (Nat.beq i) then .dead else st.t i }
theorem Rel.drew {N:Nat}{E:A0}{st:St}{φ:Phi}{a:Act}{w:World}(h:Rel N E st φ a w):Rel N E st φ a { w with drawn:=w.drawn+1 }/\Ext w φ { w with drawn:=w.drawn+1 } φ:=by
 have he:Ext w φ { w with drawn:=w.drawn+1 } φ:=⟨rfl,rfl,rfl,Nat.le_refl _,fun _ _ _=>rfl,G2.refl φ,fun _ h=>.inl h⟩
 exact⟨⟨h.sz,⟨h.df.1,h.df.2.ext h.hp.free he⟩,h.old.ext he,fun t=>(h.tm t).ext he,h.hp.same he fun _ _=>rfl,h.fr,h.lv⟩,he⟩
theorem Rk {p q:Nat->Bool}(hpq:∀ x,q x=true->p x=true){i:Nat}(hp:p i=true)(hq:q i=false):∀ (l:List Nat),i∈l->l.countP q<l.countP p
 | [],h=>by simp at h
 | x::l,h=>by
  have hle:l.countP q<=l.countP p:=List.countP_mono_left fun x _=>hpq x
  rcases List.mem_cons.1 h with rfl | h
  ·rw[List.countP_cons_of_neg (by simp[hq]),List.countP_cons_of_pos hp];omega
  ·have ih:=Rk hpq hp hq l h
   cases hx:q x with
   | true=>rw[List.countP_cons_of_pos hx,List.countP_cons_of_pos (hpq x hx)];omega
   | false =>
    rw[List.countP_cons_of_neg (by simp[hx])]
    cases hx':p x with
    | true=>rw[List.countP_cons_of_pos hx'];omega
    | false=>rw[List.countP_cons_of_neg (by simp[hx'])];exact ih
section
variable {dr : Bool} {P:Program} {T:TypeId->TE} {O:Nat->Orc} {ops:Array Oper} {st0:St} {N:Nat} {E:A0} {w0:World} {φ0:Phi} {M:Array Nat}
theorem RI.start {a:Act}(h:Rel N E st0 φ0 a w0):RI P T O ops st0 N E w0 φ0 (fun _=>false) φ0 a w0:=by
 obtain⟨m,_,a2,a3,a4⟩:=Sa (T:=T) (O:=O) (ops:=ops) (st0:=st0) ops.size 0 (by omega)
 have n3:=GV (T:=T) (O:=O) (ops:=ops) (st0:=st0) 0 m (Nat.zero_le _) a2
 have n4:=JC (T:=T) (O:=O) (ops:=ops) (st0:=st0) 0 m (Nat.zero_le _) a2 (fun s o' hs1 hs2 hs=>a3 s (by omega) hs2)
 refine⟨h.sz,⟨h.df.1,fun _ _ e=>h.df.2.ext h.hp.free e⟩,Ext.refl _ _,h.old,fun t _=>h.tm t,fun i o t _ hD=>by (simp at hD),fun i o ho _ j hj=>?_,h.lv,fun i o _ hD=>by (simp at hD),m,a2,fun s o ho hp=>?_,a4,?_,fun id hid=>h.fr id (Nat.le_trans n3 hid)⟩
 ·have n5:=GV (T:=T) (O:=O) (ops:=ops) (st0:=st0) 0 i (Nat.zero_le _) (Nat.le_of_lt (Array.getElem?_eq_some_iff.1 ho).1)
  exact h.fr _ (Nat.le_trans n5 (Nat.le_add_right _ _))
 ·constructor
  ·intro h;simp at h
  ·intro hlt;exact absurd (a3 s (by omega) hlt) hp
 ·refine h.hp.congr fun k hk=>n4 k ?_
  rcases Nat.lt_or_ge k st0.nx with h' | h'
  ·exact h'
  ·exact absurd (h.fr k h') hk
theorem RI.finish (hR:Kb ops M N)(hG:∀ (j:Nat) o,ops[j]?=some o->Jo dr T O ops st0 j o){D:Nat->Bool}(hD:∀ i,i<ops.size->D i=true){φ:Phi}{a:Act}{w:World}(h:RI P T O ops st0 N E w0 φ0 D φ a w) :
  Rel N E (clr ops (A3 T O ops st0 ops.size).1) φ a w:=by
 obtain⟨m,hm,hput,hmp,hH,hfr⟩:=h.st
 have hmn:m=ops.size:=by
  rcases Nat.lt_or_ge m ops.size with hlt | hge
  ·have ho:ops[m]?=some (ops[m]'hlt):=by simp[hlt]
   have:=(hput m _ ho (hmp hlt)).1 (hD m hlt)
   omega
  ·omega
 subst hmn
 have hclr:(clr ops (A3 T O ops st0 ops.size).1).H=(A3 T O ops st0 ops.size).1.H/\(clr ops (A3 T O ops st0 ops.size).1).nx=(A3 T O ops st0 ops.size).1.nx:=by unfold clr;split<;>exact⟨rfl,rfl⟩
 have htm:∀ t,(∀ (i:Nat) o,ops[i]?=some o->o.dst=some t->o.guard=none)->V w (E.up φ) (some φ) ((A3 T O ops st0 ops.size).1.t t) (a.tmps.getD t undef):=by
  intro t ht
  by_cases hex:∃ (i:Nat) (o:Oper),ops[i]?=some o/\o.dst=some t
  ·obtain⟨i,o,ho,hd⟩:=hex
   have hil:=(Array.getElem?_eq_some_iff.1 ho).1
   rw[IW ho hd _ (Nat.le_refl _) hil (fun k o' _ hne ho' hd'=>hne (hR.uniq k i o' o t ho' ho hd' hd))]
   exact(h.inn i o t ho (hD i hil) hd).1 (NW hG ho (ht i o ho hd))
  ·rw[Lv _ (Nat.le_refl _) (fun i (o:Oper) _ ho hd=>hex ⟨i,o,ho,hd⟩)]
   exact h.out t fun i o ho _ hd=>hex ⟨i,o,ho,hd⟩
 refine⟨h.sz,⟨h.df.1,h.df.2 _ _ h.ext⟩,h.old,fun t=>?_,by rw[hclr.1];exact hH,by rw[hclr.2];exact hfr,by rw[hclr.2];exact h.live (Nat.le_refl _) fun s o hs _ _=>hD s hs⟩
 have hno:(AbO ops).any (Nat.beq t)=false->V w (E.up φ) (some φ) ((A3 T O ops st0 ops.size).1.t t) (a.tmps.getD t undef):=by
  intro hno
  refine htm t fun i o ho hd=>?_
  cases hg:o.guard with
  | none=>rfl
  | some g =>
   exfalso
   have hmem:t∈AbO ops:=by
    unfold AbO
    rw[List.mem_filterMap]
    exact⟨o,by have:=Array.mem_of_getElem? ho;simpa using this,by simp[hg,hd]⟩
   have:=List.any_eq_false.1 hno t hmem
   simp at this
 unfold clr
 split
 ·rename_i hl;exact hno (by rw[hl];rfl)
 ·show V w _ _ (bif (AbO ops).any (Nat.beq t) then VV.dead else _) _
  cases hq:(AbO ops).any (Nat.beq t) with
  | true=>exact .dead
  | false=>exact hno hq
theorem Ait (hdr:dr=true)(hT:TOk P T)(hO:∀ i,Iz P (O i))(hR:Kb ops (Region.before ops) N)(hG:∀ (j:Nat) o,ops[j]?=some o->Jo dr T O ops st0 j o){Q:Exit->Act->World->Prop}
  (hQ:∀ D φ a w,(∀ i,i<ops.size->D i=true)->RI P T O ops st0 N E w0 φ0 D φ a w->Q .normal a w) :
  ∀ (fuel:Nat) (listed:Array Bool) (φ:Phi) (a:Act) (w:World),listed.size=ops.size->MU ops (fun i=>listed.getD i false)->(List.range ops.size).countP (fun i=>!listed.getD i false)<=fuel ->
   RI P T O ops st0 N E w0 φ0 (fun i=>listed.getD i false) φ a w->wpAny P .any ops Q fuel listed a w:=by
 have hnil:∀ (listed:Array Bool),listed.size=ops.size->Region.ready .any ops listed=[]->∀ i,i<ops.size->listed.getD i false=true:=by
  intro listed hs hr i
  induction i using Nat.strongRecOn with
  | _ i ih =>
   intro hi
   cases hq:listed.getD i false with
   | true=>rfl
   | false =>
    exfalso
    have ho:ops[i]?=some (ops[i]'hi):=by simp[hi]
    have hil:i<listed.size:=by omega
    have:i∈Region.ready .any ops listed:=mem_ready.2 ⟨by simp[Array.getD,hil]at hq ⊢;exact hq,_,ho,fun e he hb=>ih e.on (hR.low i _ e ho he hb) (by have:=hR.low i _ e ho he hb;omega)⟩
    rw[hr]at this
    simp at this
 intro fuel
 induction fuel with
 | zero =>
  intro listed φ a w hs hcl hc h
  have hall:∀ i,i<ops.size->listed.getD i false=true:=by
   intro i hi
   have:=List.countP_eq_zero.1 (Nat.le_zero.1 hc) i (List.mem_range.2 hi)
   simpa using this
  refine⟨?_,hQ _ φ a w hall h⟩
  rw[List.eq_nil_iff_forall_not_mem]
  intro j hj
  obtain⟨h0,o,ho,_⟩:=mem_ready.1 hj
  have hjl:j<listed.size:=by rw[hs];exact(Array.getElem?_eq_some_iff.1 ho).1
  have:=hall j (by omega)
  simp[Array.getD,hjl]at h0 this
  rw[h0]at this
  simp at this
 | succ fuel ih =>
  intro listed φ a w hs hcl hc h
  refine⟨fun hr=>hQ _ φ a w (hnil listed hs hr) h,fun i hi=>?_⟩
  obtain⟨h0,o,ho,hdeps⟩:=mem_ready.1 hi
  have hil:i<ops.size:=(Array.getElem?_eq_some_iff.1 ho).1
  have hif:listed.getD i false=false:=by
   have:i<listed.size:=by omega
   simp[Array.getD,this]at h0 ⊢;exact h0
  have hplus:(fun j=>(listed.setIfInBounds i true).getD j false)=LF (fun j=>listed.getD j false) i:=by
   funext j
   simp only[LF]
   by_cases hji:j=i
   ·subst hji;simp[Array.getD,show j<listed.size by omega]
   ·rw[getD_set_ne false (Ne.symm hji)];simp[hji]
  refine h.step hT hO hR hG hcl ho hif hdeps (fun e=>by rw[hdr]at e;cases e) fun φ' a' w' h'=>ih _ φ' a' w' (by simpa using hs) ?_ ?_ (by rw[hplus];exact h')
  ·rw[hplus]
   intro k ok e hk hD he hb
   rcases D6.1 hD with rfl | hD
   ·rw[ho]at hk
    simp only[Option.some.injEq]at hk
    subst hk
    exact D6.2 (.inr (hdeps e he hb))
   ·exact D6.2 (.inr (hcl k ok e hk hD he hb))
  ·have hlt:=Rk (p:=fun j=>!listed.getD j false) (q:=fun j=>!(listed.setIfInBounds i true).getD j false) (fun x hx=>by
    have e:(listed.setIfInBounds i true).getD x false=LF (fun j=>listed.getD j false) i x:=congrFun hplus x
    simp only[e,LF,Bool.not_or,Bool.and_eq_true]at hx
    exact hx.2) (i:=i) (by simp only[hif,Bool.not_false]) (by
     have e:(listed.setIfInBounds i true).getD i false=LF (fun j=>listed.getD j false) i i:=congrFun hplus i
     simp only[e,LF,beq_self_eq_true,Bool.true_or,Bool.not_true]) (List.range ops.size) (List.mem_range.2 hil)
   omega
theorem AeO (hT:TOk P T)(hO:∀ i,Iz P (O i))(hR:Kb ops (Region.before ops) N)(hG:∀ (j:Nat) o,ops[j]?=some o->Jo dr T O ops st0 j o){Q:Exit->Act->World->Prop}
  (hQ:∀ D φ a w,(∀ i,i<ops.size->D i=true)->RI P T O ops st0 N E w0 φ0 D φ a w->Q .normal a w) :
  ∀ (n k:Nat) (φ:Phi) (a:Act) (w:World),k+n=ops.size->RI P T O ops st0 N E w0 φ0 (fun i=>decide (i<k)) φ a w->wpOps P ops Q (List.range' k n) a w
 | 0,k,φ,a,w,hk,h=>hQ _ φ a w (fun i hi=>by simp;omega) h
 | n+1,k,φ,a,w,hk,h=>by
  rw[List.range'_succ,wpOps_cons]
  have ho:ops[k]?=some (ops[k]'(by omega)):=by simp[show k<ops.size by omega]
  have hcl:MU ops (fun i=>decide (i<k)):=by
   intro i o e hi hD he hb
   have:=hR.low i o e hi he hb
   simp at hD ⊢;omega
  refine h.step hT hO hR hG hcl ho (by simp) (fun e he hb=>by have:=hR.low k _ e ho he hb;simpa using this) (fun _ s _=>by simp) fun φ' a' w' h'=>AeO hT hO hR hG hQ n (k+1) φ' a' w' (by omega) ?_
  have e:(fun i=>decide (i<k+1))=LF (fun i=>decide (i<k)) k:=by
   funext i
   simp only[LF]
   by_cases hik:i=k
   ·subst hik;simp
   ·have:(i<k+1) ↔ i<k:=by omega
    simp[this,hik]
  rw[e];exact h'
theorem Aaq (hT:TOk P T)(hO:∀ i,Iz P (O i))(hmx:P.follows .mixedOrders=true)(hB:Agm ops N=true){K:St->Prop}{id:Nat}{draw:Bool}{a:Act}(h:KX T O draw ops 0 ops.toList st0 [] [] fun st'=>K (clr ops st'))(hrel:Rel N E st0 φ0 a w0) :
  (Code.region id ops draw).wp P (fun e a' w'=>e=.normal/\∃ st' φ',K st'/\Rel N E st' φ' a' w'/\Ext w0 φ0 w' φ') a w0:=by
 have hR:=Adw hB
 obtain⟨hG',hK⟩:=P4 (T:=T) (O:=O) (st0:=st0) ops.toList 0 (by simp) (Nat.zero_le _) h
 have hG:∀ (j:Nat) o,ops[j]?=some o->Jo draw T O ops st0 j o:=fun j o=>hG' j o (Nat.zero_le _)
 cases draw with
 | false =>
  refine wp_region ?_
  rw[List.range_eq_range']
  refine AeO hT hO hR hG (fun D φ a w hD hI=>⟨rfl,_,φ,hK,hI.finish hR hG hD,hI.ext⟩) ops.size 0 φ0 a w0 (by omega) ?_
  have e:(fun i=>decide (i<0))=fun _=>false:=by funext i;simp
  rw[e];exact RI.start hrel
 | true =>
  obtain⟨hrel',hext⟩:=hrel.drew
  refine wp_region_any hmx ?_
  refine Ait rfl hT hO hR hG (w0:={ w0 with drawn:=w0.drawn+1 }) (φ0:=φ0) (fun D φ a w hD hI=>⟨rfl,_,φ,hK,hI.finish hR hG hD,hext.trans hI.ext⟩) ops.size _ φ0 a _ (by simp) ?_ ?_ ?_
  ·intro i o e hi hD
   have h0:(Array.replicate ops.size false).getD i false=false:=by simp[Array.getD]
   exact absurd (h0.symm.trans hD) (by simp)
  ·have:=List.countP_le_length (p:=fun i=>!(Array.replicate ops.size false).getD i false) (l:=List.range ops.size)
   simpa using this
  ·have e:(fun i=>(Array.replicate ops.size false).getD i false)=fun _=>false:=by funext i;simp[Array.getD]
   rw[e];exact RI.start hrel'
end
structure Shp where
 α:Type
 enc:α->List Ob × VV
 lend:Bool:=false
abbrev Shs:=FuncId->Shp
def Shs.ld (Sh:Shs):FuncId->Bool:=fun f=>(Sh f).lend
def Gv (ld:FuncId->Bool)(g:Bool):Orc:=⟨ld,fun _ _ _=>(([],.dead),[False]),g⟩
theorem O5 (ld:FuncId->Bool)(g:Bool):(Gv ld g).lend=ld:=rfl
def MV (P:Program)(T:TypeId->TE)(Sh:Shs)(dr:Bool)(ops:Array Oper):Nat->List Oper->St->List Bool->List Fl->(St->Prop)->Prop
 | _,[],st,_,_,K=>K st
 | k,o::rest,st,pcs,fl,K =>
  match Kg ops st pcs o with
  | none=>False
  | some pc =>
   match Jq Sh.ld st o.op,o.guard with
   | some q,none=>∃ y:(Sh q.1).α,Al P q.1 q.2.2.1 q.2.2.2 ((Sh q.1).enc y).1 ((Sh q.1).enc y).2 /\
     (bif Ix dr ops fl k ((DN st (Sh.ld q.1) q.2.1 ((Sh q.1).enc y).1 ((Sh q.1).enc y).2).flag (DB st o.op) (CE st o.op) (EO Sh.ld st o.op)) then
      Ab5 (DN st (Sh.ld q.1) q.2.1 ((Sh q.1).enc y).1 ((Sh q.1).enc y).2).chk
       (MV P T Sh dr ops (k+1) rest (st.after o (DN st (Sh.ld q.1) q.2.1 ((Sh q.1).enc y).1 ((Sh q.1).enc y).2)) (pcs++[pc]) (fl++[(DN st (Sh.ld q.1) q.2.1 ((Sh q.1).enc y).1 ((Sh q.1).enc y).2).flag (DB st o.op) (CE st o.op) (EO Sh.ld st o.op)]) K) else False)
   | some q,some _=>∃ y:(Sh q.1).α,(pc=true->Al P q.1 q.2.2.1 q.2.2.2 ((Sh q.1).enc y).1 ((Sh q.1).enc y).2) /\
     (bif Ix dr ops fl k ((DN st (Sh.ld q.1) q.2.1 ((Sh q.1).enc y).1 ((Sh q.1).enc y).2).flag (DB st o.op) (CE st o.op) (EO Sh.ld st o.op)) then
     match(DN st (Sh.ld q.1) q.2.1 ((Sh q.1).enc y).1 ((Sh q.1).enc y).2).new,(DN st (Sh.ld q.1) q.2.1 ((Sh q.1).enc y).1 ((Sh q.1).enc y).2).put,(DN st (Sh.ld q.1) q.2.1 ((Sh q.1).enc y).1 ((Sh q.1).enc y).2).chk with
     | [],none,[]=>MV P T Sh dr ops (k+1) rest (st.after o (DN st (Sh.ld q.1) q.2.1 ((Sh q.1).enc y).1 ((Sh q.1).enc y).2)) (pcs++[pc]) (fl++[(DN st (Sh.ld q.1) q.2.1 ((Sh q.1).enc y).1 ((Sh q.1).enc y).2).flag (DB st o.op) (CE st o.op) (EO Sh.ld st o.op)]) K
     | _,_,_=>False
     else False)
   | none,g =>
    bif Ix dr ops fl k ((vop T (Gv Sh.ld g.isSome) st o.op).flag (DB st o.op) (CE st o.op) (EO Sh.ld st o.op)) then
     match g,(vop T (Gv Sh.ld g.isSome) st o.op).new,(vop T (Gv Sh.ld g.isSome) st o.op).put with
     | none,_,_=>Ab5 (vop T (Gv Sh.ld g.isSome) st o.op).chk (MV P T Sh dr ops (k+1) rest (st.after o (vop T (Gv Sh.ld g.isSome) st o.op)) (pcs++[pc]) (fl++[(vop T (Gv Sh.ld g.isSome) st o.op).flag (DB st o.op) (CE st o.op) (EO Sh.ld st o.op)]) K)
     | some _,[],none=>Pq pc (vop T (Gv Sh.ld g.isSome) st o.op).chk (MV P T Sh dr ops (k+1) rest (st.after o (vop T (Gv Sh.ld g.isSome) st o.op)) (pcs++[pc]) (fl++[(vop T (Gv Sh.ld g.isSome) st o.op).flag (DB st o.op) (CE st o.op) (EO Sh.ld st o.op)]) K)
     | _,_,_=>False
    else False
theorem Oa {T:TypeId->TE}{O:Orc}{st:St}{op:Op}{q:FuncId × List Nat × List Ob × List VV}(h:Jq O.lend st op=some q) :
  vop T O st op=(DN st (O.lend q.1) q.2.1 (O.run q.1 q.2.2.1 q.2.2.2).1.1 (O.run q.1 q.2.2.1 q.2.2.2).1.2).also (O.run q.1 q.2.2.1 q.2.2.2).2:=by
 cases op<;>simp only[Jq,reduceCtorEq]at h
 rename_i c
 split at h
 ·rename_i f hf
  simp only[vop,hf,Hd,h]
 ·cases h
theorem N5 {K:Prop}:∀ {l:List Prop},(∀ p∈l,p)->K->Ab5 l K
 | [],_,hk=>hk
 | p::_,h,hk=>⟨h p (List.mem_cons_self ..),N5 (fun q hq=>h q (List.mem_cons_of_mem _ hq)) hk⟩
theorem JQ {pc:Bool}{K:Prop}:∀ {l:List Prop},(pc=true->∀ p∈l,p)->K->Pq pc l K
 | [],_,hk=>hk
 | p::_,h,hk=>⟨fun hpc=>h hpc p (List.mem_cons_self ..),JQ (fun hpc q hq=>h hpc q (List.mem_cons_of_mem _ hq)) hk⟩
theorem Fc {dr:Bool}{T:TypeId->TE}{O O':Nat->Orc}{ops:Array Oper}{K:St->Prop}:∀ (l:List Oper) (k:Nat) (st:St) (pcs:List Bool) (fl:List Fl),(∀ i,k<=i->O i=O' i)->KX T O dr ops k l st pcs fl K->KX T O' dr ops k l st pcs fl K
 | [],_,_,_,_,_,h=>h
 | o::rest,k,st,pcs,fl,he,h=>by
  have e:=he k (Nat.le_refl _)
  simp only[KX]at h ⊢
  split
  ·rename_i hg;rw[hg]at h;exact h
  ·rename_i pc hg
   rw[hg]at h
   simp only at h
   rw[← e]
   cases hpu:Ix dr ops fl k ((vop T (O k) st o.op).flag (DB st o.op) (CE st o.op) (EO (O k).lend st o.op)) with
   | false=>rw[hpu]at h;exact h.elim
   | true =>
    rw[hpu]at h
    simp only[cond_true]at h ⊢
    split
    ·rename_i hgd
     rw[hgd]at h
     simp only at h
     obtain⟨h1,h2⟩:=Jd h
     exact N5 h1 (Fc rest (k+1) _ _ _ (fun i hi=>he i (by omega)) h2)
    ·rename_i gd hgd hn hp
     rw[hgd,hn,hp]at h
     simp only at h
     obtain⟨h1,h2⟩:=Io h
     exact JQ h1 (Fc rest (k+1) _ _ _ (fun i hi=>he i (by omega)) h2)
    ·rename_i x1 x2
     split at h
     ·rename_i hgd;exact absurd hgd x1
     ·rename_i gd hgd hn hp;exact absurd hp (x2 gd hgd hn)
     ·exact h.elim
theorem Ge {dr:Bool}{P:Program}{T:TypeId->TE}{Sh:Shs}{ops:Array Oper}{K:St->Prop}:∀ (l:List Oper) (k:Nat) (st:St) (pcs:List Bool) (fl:List Fl),MV P T Sh dr ops k l st pcs fl K ->
  ∃ O:Nat->Orc,(∀ i,Iz P (O i))/\KX T O dr ops k l st pcs fl K
 | [],_,_,_,_,h=>⟨fun _=>Gv Sh.ld false,fun _ f hs xs h=>(h False (by simp[Gv])).elim,h⟩
 | o::rest,k,st,pcs,fl,h=>by
  simp only[MV]at h
  split at h
  ·exact h.elim
  ·rename_i pc hg
   have fin:∀ (Ok:Orc),Iz P Ok->∀ (O':Nat->Orc),(∀ i,Iz P (O' i))->∃ O:Nat->Orc,(∀ i,Iz P (O i))/\O k=Ok/\∀ i,k+1<=i->O' i=O i:=by
    intro Ok h1 O' h2
    refine⟨fun i=>if i=k then Ok else O' i,fun i=>?_,if_pos rfl,fun i hi=>(if_neg (by omega)).symm⟩
    show Iz P (if i=k then Ok else O' i)
    split
    ·exact h1
    ·exact h2 i
   split at h
   ·rename_i q hq hgd
    obtain⟨y,hy,hk⟩:=h
    cases hpu:Ix dr ops fl k ((DN st (Sh.ld q.1) q.2.1 ((Sh q.1).enc y).1 ((Sh q.1).enc y).2).flag (DB st o.op) (CE st o.op) (EO Sh.ld st o.op)) with
    | false=>rw[hpu]at hk;exact hk.elim
    | true =>
     rw[hpu]at hk
     simp only[cond_true]at hk
     obtain⟨hc1,hc2⟩:=Jd hk
     obtain⟨O',h2,h3⟩:=Ge rest (k+1) _ _ _ hc2
     obtain⟨O,o1,o2,o3⟩:=fin ⟨Sh.ld,fun f hs ys=>((Sh q.1).enc y,[Al P f hs ys ((Sh q.1).enc y).1 ((Sh q.1).enc y).2]),false⟩ (fun f hs ys hp=>hp _ (List.mem_cons_self ..)) O' h2
     refine⟨O,o1,?_⟩
     have ev:vop T (O k) st o.op=(DN st (Sh.ld q.1) q.2.1 ((Sh q.1).enc y).1 ((Sh q.1).enc y).2).also [Al P q.1 q.2.2.1 q.2.2.2 ((Sh q.1).enc y).1 ((Sh q.1).enc y).2]:=by
      rw[o2]
      exact Oa (O:=⟨Sh.ld,fun f hs ys=>((Sh q.1).enc y,[Al P f hs ys ((Sh q.1).enc y).1 ((Sh q.1).enc y).2]),false⟩) hq
     have ep:∀ ps,Ix dr ops fl k (((DN st (Sh.ld q.1) q.2.1 ((Sh q.1).enc y).1 ((Sh q.1).enc y).2).also ps).flag (DB st o.op) (CE st o.op) (EO Sh.ld st o.op))=true:=fun ps=>hpu
     have el:(O k).lend=Sh.ld:=by rw[o2]
     simp only[KX,hg,hgd,ev,el,ep,cond_true]
     refine N5 ?_ (Fc rest (k+1) _ _ _ o3 h3)
     intro p hp
     rcases List.mem_append.1 hp with hp | hp
     ·exact hc1 p hp
     ·simp only[List.mem_singleton]at hp;subst hp;exact hy
   ·rename_i q gd hq hgd
    obtain⟨y,hy,hk⟩:=h
    cases hpu:Ix dr ops fl k ((DN st (Sh.ld q.1) q.2.1 ((Sh q.1).enc y).1 ((Sh q.1).enc y).2).flag (DB st o.op) (CE st o.op) (EO Sh.ld st o.op)) with
    | false=>rw[hpu]at hk;exact hk.elim
    | true =>
    rw[hpu]at hk
    simp only[cond_true]at hk
    split at hk
    ·rename_i e1 e2 e3
     obtain⟨O',h2,h3⟩:=Ge rest (k+1) _ _ _ hk
     obtain⟨O,o1,o2,o3⟩:=fin ⟨Sh.ld,fun f hs ys=>((Sh q.1).enc y,[Al P f hs ys ((Sh q.1).enc y).1 ((Sh q.1).enc y).2]),false⟩ (fun f hs ys hp=>hp _ (List.mem_cons_self ..)) O' h2
     refine⟨O,o1,?_⟩
     have ev:vop T (O k) st o.op=(DN st (Sh.ld q.1) q.2.1 ((Sh q.1).enc y).1 ((Sh q.1).enc y).2).also [Al P q.1 q.2.2.1 q.2.2.2 ((Sh q.1).enc y).1 ((Sh q.1).enc y).2]:=by
      rw[o2]
      exact Oa (O:=⟨Sh.ld,fun f hs ys=>((Sh q.1).enc y,[Al P f hs ys ((Sh q.1).enc y).1 ((Sh q.1).enc y).2]),false⟩) hq
     have ep:∀ ps,Ix dr ops fl k (((DN st (Sh.ld q.1) q.2.1 ((Sh q.1).enc y).1 ((Sh q.1).enc y).2).also ps).flag (DB st o.op) (CE st o.op) (EO Sh.ld st o.op))=true:=fun ps=>hpu
     have en:∀ ps,((DN st (Sh.ld q.1) q.2.1 ((Sh q.1).enc y).1 ((Sh q.1).enc y).2).also ps).new=[]:=fun _=>e1
     have eu:∀ ps,((DN st (Sh.ld q.1) q.2.1 ((Sh q.1).enc y).1 ((Sh q.1).enc y).2).also ps).put=none:=fun _=>e2
     have el:(O k).lend=Sh.ld:=by rw[o2]
     simp only[KX,hg,hgd,ev,el,ep,cond_true,en,eu]
     refine JQ ?_ (Fc rest (k+1) _ _ _ o3 h3)
     intro hpc p hp
     rcases List.mem_append.1 hp with hp | hp
     ·rw[e3]at hp;simp at hp
     ·simp only[List.mem_singleton]at hp;subst hp;exact hy hpc
    ·exact hk.elim
   ·rename_i hnt
    have bad:∀ g,Iz P (Gv Sh.ld g):=fun g f hs xs h=>(h False (by simp[Gv])).elim
    generalize o.guard.isSome=gg at h
    cases hpu:Ix dr ops fl k ((vop T (Gv Sh.ld gg) st o.op).flag (DB st o.op) (CE st o.op) (EO Sh.ld st o.op)) with
    | false=>rw[hpu]at h;exact h.elim
    | true =>
     rw[hpu]at h
     simp only[cond_true]at h
     split at h
     ·rename_i hgd
      obtain⟨h1,h2⟩:=Jd h
      obtain⟨O',h3,h4⟩:=Ge rest (k+1) _ _ _ h2
      obtain⟨O,o1,o2,o3⟩:=fin _ (bad gg) O' h3
      refine⟨O,o1,?_⟩
      simp only[KX,hg,hgd,o2,O5,hpu,cond_true]
      exact N5 h1 (Fc rest (k+1) _ _ _ o3 h4)
     ·rename_i gd hgd hn hp
      obtain⟨h1,h2⟩:=Io h
      obtain⟨O',h3,h4⟩:=Ge rest (k+1) _ _ _ h2
      obtain⟨O,o1,o2,o3⟩:=fin _ (bad gg) O' h3
      refine⟨O,o1,?_⟩
      simp only[KX,hg,hgd,o2,O5,hpu,cond_true,hn,hp]
      exact JQ h1 (Fc rest (k+1) _ _ _ o3 h4)
     ·exact h.elim
theorem Wf {P:Program}{T:TypeId->TE}{Sh:Shs}{ops:Array Oper}{st0:St}{N:Nat}{E:A0}{w0:World}{φ0:Phi}(hT:TOk P T)(hmx:P.follows .mixedOrders=true)(hB:Agm ops N=true){K:St->Prop}{id:Nat}{draw:Bool}{a:Act}
  (h:MV P T Sh draw ops 0 ops.toList st0 [] [] fun st'=>K (clr ops st')) (hrel:Rel N E st0 φ0 a w0) :
  (Code.region id ops draw).wp P (fun e a' w'=>e=.normal/\∃ st' φ',K st'/\Rel N E st' φ' a' w'/\Ext w0 φ0 w' φ') a w0:=by
 obtain⟨O,hO,hx⟩:=Ge ops.toList 0 st0 [] [] h
 exact Aaq hT hO hmx hB hx hrel
end
section
structure A0.Le (E E':A0):Prop where
 fz:∀ k,E.fz k->E'.fz k
 br:∀ k,E.br k->E'.br k
 lo:E'.lo=E.lo
theorem A0.Le.refl (E:A0):E.Le E:=⟨fun _ h=>h,fun _ h=>h,rfl⟩
theorem A0.Le.trans {E E' E'':A0}(h:E.Le E')(k:E'.Le E''):E.Le E'':=⟨fun i x=>k.fz i (h.fz i x),fun i x=>k.br i (h.br i x),k.lo.trans h.lo⟩
structure Sat (P:Program) (N b:Nat) (p:List Nat) (c:Code) (K:Exit->St->Prop) (st:St):Prop where
 h:∀ (E:A0) (φ:Phi) (a:Act) (w:World),Rel N E st φ a w->c.wp P (fun e a' w'=>∃ E' st' φ',E.Le E'/\K e st'/\Rel N E' st' φ' a' w'/\Fr b w φ w' φ') a w
def C6 (i:Nat):List (Nat × VV)->VV
 | []=>.dead
 | (j,x)::l=>bif Nat.beq i j then x else C6 i l
def Av (l:List (Nat × VV))(hs:List Ob):St:={ t:=fun i=>C6 i l,H:=CG hs,nx:=hs.length }
def Mm (st:St)(b:Nat)(refs:List Nat):List Nat:=OI st 64 ((List.range b).flatMap (fun i=>(st.H i).refs)++refs) (List.range b)
def QT (st:St)(b:Nat)(ids:List Nat):Bool:=GY st.nx ids&&(List.range b).all fun i =>
 match idx ids i with
 | some j=>Nat.beq j i
 | none=>false
def Za (b:Nat)(keep:List Nat)(st:St):List Nat:=Mm st b (keep.flatMap fun i=>Hl 8 (st.t i))
def okF (b:Nat)(keep:List Nat)(st:St):Bool:=QT st b (Za b keep st)
def forgetIds (keep:List Nat)(st:St)(ids:List Nat):St:=Av (keep.map fun i=>(i,UE st ids (st.t i))) (ids.map (I7 st ids))
def forget (b:Nat)(keep:List Nat)(st:St):St:=forgetIds keep st (Za b keep st)
structure Ann where
 keep:List Nat->List Nat
 base:Nat:=0
 cut:List Nat->Bool:=fun _=>false
def AhW (K:Exit->St->Prop)(next:St->Prop):Exit->St->Prop
 | .normal,st=>next st
 | e,st=>K e st
def Sw (id:Nat)(K:Exit->St->Prop):Exit->St->Prop
 | .exit j,st=>bif Nat.beq j id then K .normal st else K (.exit j) st
 | e,st=>K e st
def AeZ (b:Nat)(keep:List Nat)(J:St->Prop)(K:Exit->St->Prop):Exit->St->Prop
 | .normal,st=>bif okF b keep st then J (forget b keep st) else False
 | e,st=>K e st
def Q4 (l b:Nat)(keep:List Nat)(J:St->Prop)(K:Exit->St->Prop):Exit->St->Prop
 | .goto l',st=>bif Nat.beq l' l&&okF b keep st then J (forget b keep st) else False
 | e,st=>K e st
def xc (P:Program)(T:TypeId->TE)(Sh:Shs)(N:Nat)(L:Ann):List Nat->Code->(Exit->St->Prop)->St->Prop
 | _,.skip,K,st=>K .normal st
 | _,.label _,K,st=>K .normal st
 | _,.region _ ops dr,K,st=>MV P T Sh dr ops 0 ops.toList st [] [] fun st'=>K .normal (clr ops st')
 | p,.seq x y,K,st=>xc P T Sh N L (0::p) x (AhW K fun st'=>bif L.cut (1::p) then(bif okF L.base (L.keep (1::p)) st' then Sat P N L.base (1::p) y K (forget L.base (L.keep (1::p)) st') else False) else xc P T Sh N L (1::p) y K st') st
 | p,.cond c x y,K,st=>match st.val c with
  | .sc (.bool b)=>(b=true->xc P T Sh N L (0::p) x K st)/\(b=false->xc P T Sh N L (1::p) y K st)
  | _=>False
 | p,.block id c,K,st=>xc P T Sh N L (0::p) c (Sw id K) st
 | _,.exit id,K,st=>K (.exit id) st
 | _,.goto l,K,st=>K (.goto l) st
 | _,.ret,K,st=>K .ret st
 | p,.loop c,K,st=>bif okF L.base (L.keep p) st then Sat P N L.base p (.loop c) K (forget L.base (L.keep p) st) else False
 | p,.scope c,K,st=>bif okF L.base (L.keep p) st then Sat P N L.base p (.scope c) K (forget L.base (L.keep p) st) else False
 | _,_,_,_=>False
def E9 : List Nat->Code->Code
 | 0::q,.seq x _=>E9 q x
 | 1::q,.seq _ y=>E9 q y
 | 0::q,.cond _ x _=>E9 q x
 | 1::q,.cond _ _ y=>E9 q y
 | 0::q,.block _ c=>E9 q c
 | 0::q,.loop c=>E9 q c
 | 0::q,.scope c=>E9 q c
 | [],c=>c
 | _,_=>.skip
def Q3 (P:Program)(T:TypeId->TE)(Sh:Shs)(N:Nat)(L:Ann):List Nat->List Nat->Code->(Exit->St->Prop)->Exit->St->Prop
 | 0::q,p,.seq x y,K=>Q3 P T Sh N L q (0::p) x (AhW K fun st'=>bif L.cut (1::p) then(bif okF L.base (L.keep (1::p)) st' then Sat P N L.base (1::p) y K (forget L.base (L.keep (1::p)) st') else False) else xc P T Sh N L (1::p) y K st')
 | 1::q,p,.seq _ y,K=>Q3 P T Sh N L q (1::p) y K
 | 0::q,p,.cond _ x _,K=>Q3 P T Sh N L q (0::p) x K
 | 1::q,p,.cond _ _ y,K=>Q3 P T Sh N L q (1::p) y K
 | 0::q,p,.block id c,K=>Q3 P T Sh N L q (0::p) c (Sw id K)
 | _,_,_,K=>K
def EH (N:Nat):Code->Bool
 | .region _ ops _=>Agm ops N
 | .seq x y=>EH N x&&EH N y
 | .cond _ x y=>EH N x&&EH N y
 | .block _ c=>EH N c
 | _=>true
section
variable {P : Program} {T:TypeId->TE} {Sh:Shs} {N b:Nat} {L:Ann} {E:A0} {w:World} {φ:Phi} {a:Act} {st:St}
theorem QY {f:Nat->VV}(i:Nat):∀ (l:List Nat),C6 i (l.map fun j=>(j,f j))=if i∈l then f i else .dead
 | []=>rfl
 | j::l=>by
  simp only[List.map_cons,C6]
  cases hq:Nat.beq i j with
  | true=>have:=Nat.eq_of_beq_eq_true hq;subst this;simp
  | false =>
   have hne:i≠j:=by rintro rfl;simp at hq
   rw[cond_false,QY i l]
   simp[hne]
theorem QS {ids:List Nat}(h:QT st b ids=true):GY st.nx ids=true/\∀ (i:Nat),i<b->ids[i]?=some i:=by
 unfold QT at h
 rw[Bool.and_eq_true]at h
 refine⟨h.1,fun i hi=>?_⟩
 have:=List.all_eq_true.1 h.2 i (List.mem_range.2 hi)
 split at this
 ·rename_i j hj
  have e:=Nat.eq_of_beq_eq_true this
  subst e
  exact Eo hj
 ·cases this
theorem Y8 {ids:List Nat}(hk:∀ (i:Nat),i<b->ids[i]?=some i):Fr b w φ w (Em ids φ) :=
 ⟨rfl,rfl,rfl,Nat.le_refl _,fun _ _ _=>rfl,fun _ h=>.inl (Gq.2 (.inr h)),fun id p hb e=>⟨FU (fun _=>0) p,by rw[Gy (hk id hb),e];rfl,by
  cases p with
  | box b=>rfl
  | arr c n hd=>exact⟨_,_,_,rfl⟩⟩⟩
theorem Kx {ids:List Nat}(hk:GY st.nx ids=true)(hlv:∀ id,id<st.nx->φ id≠none)(j:Nat):Em ids φ j≠none ↔ j<ids.length:=by
 constructor
 ·intro h
  obtain⟨p,hp⟩:=Option.ne_none_iff_exists'.1 h
  obtain⟨id,_,e1,_⟩:=Ic hp
  exact(List.getElem?_eq_some_iff.1 e1).1
 ·intro h
  have e1:ids[j]?=some ids[j]:=List.getElem?_eq_getElem h
  rw[Gy e1]
  have:=hlv _ (Ht hk j _ e1)
  simpa using this
theorem Rel.forgetIds (h:Rel N E st φ a w){keep ids:List Nat}(hk:QT st b ids=true):∃ φ',Rel N E (forgetIds keep st ids) φ' a w/\Fr b w φ w φ':=by
 obtain⟨hk1,hk2⟩:=QS hk
 refine⟨Em ids φ,⟨h.sz,h.df,h.old.sub fun _ ho=>(Hv.1 ho).elim fun _ h=>h.elim fun id h=>⟨id,h.2⟩,fun t=>?_,h.hp.lend hk1 (fun _ h=>.inl h) (fun _ h=>.inl h) h.hp.sub (fun j id e=>by simp[Go.Proofs.YtlhajmkjfcbhnaaGreat.forgetIds,Av,CG,e]),fun id hid=>?_,fun id hid=>?_⟩,Y8 hk2⟩
 ·show V w _ _ (C6 t (keep.map fun i=>(i,UE st ids (st.t i)))) _
  rw[QY]
  split
  ·exact F0 (Ib h.hp (fun _ h=>.inl h) fun _ h=>.inl h) _ _ _ (h.tm t)
  ·exact .dead
 ·have hid':ids.length<=id:=by have:(ids.map (I7 st ids)).length<=id:=hid;simpa using this
  exact Classical.byContradiction fun hn=>by have:=(Kx hk1 h.lv id).1 hn;omega
 ·have hid':id<ids.length:=by have:id<(ids.map (I7 st ids)).length:=hid;simpa using this
  exact(Kx hk1 h.lv id).2 hid'
theorem Rel.forget (h:Rel N E st φ a w){keep:List Nat}(hk:okF b keep st=true):∃ φ',Rel N E (forget b keep st) φ' a w/\Fr b w φ w φ':=h.forgetIds hk
theorem G3 (hT:TOk P T)(hmx:P.follows .mixedOrders=true):∀ (c:Code),EH N c=true->∀ (p:List Nat) (K:Exit->St->Prop) (st:St),xc P T Sh N L p c K st->Sat P N L.base p c K st
 | .skip,_,p,K,st,h=>⟨fun E φ a w hr=>wp_skip ⟨E,st,φ,.refl E,h,hr,Fr.refl _ _ _⟩⟩
 | .label l,_,p,K,st,h=>⟨fun E φ a w hr=>wp_label ⟨E,st,φ,.refl E,h,hr,Fr.refl _ _ _⟩⟩
 | .exit id,_,p,K,st,h=>⟨fun E φ a w hr=>wp_exit ⟨E,st,φ,.refl E,h,hr,Fr.refl _ _ _⟩⟩
 | .goto l,_,p,K,st,h=>⟨fun E φ a w hr=>wp_goto ⟨E,st,φ,.refl E,h,hr,Fr.refl _ _ _⟩⟩
 | .ret,_,p,K,st,h=>⟨fun E φ a w hr=>wp_ret ⟨E,st,φ,.refl E,h,hr,Fr.refl _ _ _⟩⟩
 | .loop c,_,p,K,st,h=>⟨fun E φ a w hr=>by
  simp only[xc]at h
  cases hq:okF L.base (L.keep p) st with
  | false=>rw[hq]at h;exact h.elim
  | true =>
   rw[hq]at h
   obtain⟨φ1,hr1,hf1⟩:=hr.forget hq
   exact Go.wp_mono (h.h E φ1 a w hr1) fun _ _ _ ⟨E',st',φ',h0,h1,h2,h3⟩=>⟨E',st',φ',h0,h1,h2,hf1.trans h3⟩⟩
 | .scope c,_,p,K,st,h=>⟨fun E φ a w hr=>by
  simp only[xc]at h
  cases hq:okF L.base (L.keep p) st with
  | false=>rw[hq]at h;exact h.elim
  | true =>
   rw[hq]at h
   obtain⟨φ1,hr1,hf1⟩:=hr.forget hq
   exact Go.wp_mono (h.h E φ1 a w hr1) fun _ _ _ ⟨E',st',φ',h0,h1,h2,h3⟩=>⟨E',st',φ',h0,h1,h2,hf1.trans h3⟩⟩
 | .rangeFunc ..,_,p,K,st,h=>h.elim
 | .refuse _,_,p,K,st,h=>h.elim
 | .region id ops draw,hB,p,K,st,h=>⟨fun E φ a w hr =>
  Go.wp_mono (Wf (id:=id) (draw:=draw) hT hmx hB (K:=fun st'=>K .normal st') h hr) fun e a' w' ⟨he,st',φ',h1,h2,h3⟩=>⟨E,st',φ',.refl E,by rw[he];exact h1,h2,Fr.of_ext h3⟩⟩
 | .seq x y,hB,p,K,st,h=>⟨fun E φ a w hr=>by
  simp only[EH,Bool.and_eq_true]at hB
  refine wp_seq (Go.wp_mono ((G3 hT hmx x hB.1 _ _ st h).h E φ a w hr) ?_)
  rintro e a' w' ⟨E',st',φ',h0,h1,h2,h3⟩
  cases e with
  | normal =>
   have key:Sat P N L.base (1::p) y K st':=by
    simp only[AhW]at h1
    cases hcut:L.cut (1::p) with
    | false=>rw[hcut]at h1;exact G3 hT hmx y hB.2 _ K st' h1
    | true =>
     rw[hcut,cond_true]at h1
     cases hq:okF L.base (L.keep (1::p)) st' with
     | false=>rw[hq]at h1;exact h1.elim
     | true =>
      rw[hq]at h1
      exact⟨fun E φ a w hr=>by
       obtain⟨φ1,hr1,hf1⟩:=hr.forget hq
       exact Go.wp_mono (h1.h E φ1 a w hr1) fun _ _ _ ⟨E',st',φ',h0,h1,h2,h3⟩=>⟨E',st',φ',h0,h1,h2,hf1.trans h3⟩⟩
   exact Go.wp_mono (key.h E' φ' a' w' h2) fun e a'' w'' ⟨E'',st'',φ'',g0,g1,g2,g3⟩=>⟨E'',st'',φ'',h0.trans g0,g1,g2,h3.trans g3⟩
  | _=>exact⟨E',st',φ',h0,h1,h2,h3⟩⟩
 | .cond c x y,hB,p,K,st,h=>⟨fun E φ a w hr=>by
  simp only[EH,Bool.and_eq_true]at hB
  have hc:V w (E.up φ) (some φ) (st.val c) (a.eval c):=by
   cases c with
   | tmp t=>exact hr.tm t
   | const v=>exact V.litC v
   | global g=>exact .dead
   | func f=>exact .fn rfl fun j x hx=>by simp at hx
  simp only[xc]at h
  split at h
  ·rename_i b e
   rw[e]at hc
   refine wp_cond (t:=b) hc.sc_inv ?_
   cases b with
   | true=>exact(G3 hT hmx x hB.1 _ K st (h.1 rfl)).h E φ a w hr
   | false=>exact(G3 hT hmx y hB.2 _ K st (h.2 rfl)).h E φ a w hr
  ·exact h.elim⟩
 | .block id c,hB,p,K,st,h=>⟨fun E φ a w hr=>by
  refine wp_block (Go.wp_mono ((G3 hT hmx c hB _ _ st h).h E φ a w hr) ?_)
  rintro e a' w' ⟨E',st',φ',h0,h1,h2,h3⟩
  cases e with
  | exit j =>
   simp only[Exit.inBlock]
   by_cases hj:j=id
   ·subst hj
    simp only[Sw,Nat.beq_refl,cond_true]at h1
    rw[if_pos rfl]
    exact⟨E',st',φ',h0,h1,h2,h3⟩
   ·have hb:Nat.beq j id=false:=by
     cases hq:Nat.beq j id with
     | true=>exact absurd (Nat.eq_of_beq_eq_true hq) hj
     | false=>rfl
    simp only[Sw,hb,cond_false]at h1
    rw[if_neg hj]
    exact⟨E',st',φ',h0,h1,h2,h3⟩
  | _=>exact⟨E',st',φ',h0,h1,h2,h3⟩⟩
theorem F9 {p:Nat->Prop}(h:∃ g,p g):∃ g,p g/\∀ g',p g'->g<=g':=by
 obtain⟨g,hg⟩:=h
 induction g using Nat.strongRecOn with
 | _ g ih =>
  by_cases hx:∃ g',g'<g/\p g'
  ·obtain⟨g',hlt,hp⟩:=hx;exact ih g' hlt hp
  ·exact⟨g,hg,fun g' hp=>Nat.le_of_not_lt fun hlt=>hx ⟨g',hlt,hp⟩⟩
theorem PO {c:Code}{Q:Exit->Act->World->Prop}{a:Act}{w:World}(J:Nat->Act->World->Prop)(h0:∃ g,J g a w)
  (round:∀ g a w,J g a w->c.wp P (Exit.then (fun a' w'=>∃ g',g'<g/\J g' a' w') Q) a w):(Code.loop c).wp P Q a w:=by
 classical
 let μ:Act->World->Nat:=fun a w=>if h:∃ g,J g a w then Classical.choose (F9 h) else 0
 have hμ:∀ a w,(h:∃ g,J g a w)->J (μ a w) a w/\∀ g',J g' a w->μ a w<=g':=by
  intro a w h
  have e:μ a w=Classical.choose (F9 h):=dif_pos h
  rw[e];exact Classical.choose_spec (F9 h)
 refine wp_loop (fun a w=>∃ g,J g a w) μ h0 ?_
 intro a w hx
 refine Go.wp_mono (round _ a w (hμ a w hx).1) fun e a' w' h=>?_
 cases e with
 | normal =>
  obtain⟨g',hlt,hj⟩:=h
  exact⟨⟨g',hj⟩,Nat.lt_of_le_of_lt ((hμ _ _ ⟨g',hj⟩).2 g' hj) hlt⟩
 | _=>exact h
def VV.le (x y:VV):Prop:=∀ (w:World) (E:A0) (m:Option Phi) (v:Value),V w E m x v->V w E m y v
theorem VV.le_refl (x:VV):VV.le x x:=fun _ _ _ _ h=>h
theorem VV.le_nil {fz:Bool}{n:Nat}{f:Nat->List VV}:VV.le .nl (.sl fz 0 n f):=by
 intro w E m v h
 rw[h.nl_inv]
 exact .nil (Nat.zero_le _)
def leL : List VV->List VV->Prop
 | [],[]=>True
 | x::xs,y::ys=>VV.le x y/\leL xs ys
 | _,_=>False
theorem FJ : ∀ (l:List VV),leL l l
 | []=>trivial
 | x::xs=>⟨VV.le_refl x,FJ xs⟩
theorem Ha : ∀ {l l':List VV},leL l l'->l.length=l'.length/\∀ (j:Nat) y,l'[j]?=some y->∃ x,l[j]?=some x/\VV.le x y
 | [],[],_=>⟨rfl,fun j y h=>by simp at h⟩
 | x::l,y::l',h=>by
  obtain⟨h1,h2⟩:=Ha h.2
  refine⟨by simp[h1],fun j z hz=>?_⟩
  match j,hz with
  | 0,hz=>simp only[List.getElem?_cons_zero,Option.some.injEq]at hz;subst hz;exact⟨x,rfl,h.1⟩
  | j+1,hz=>exact h2 j z hz
theorem VV.le_sl {fz:Bool}{n s s':Nat}{f f':Nat->List VV}(hs:s=s'∨n=0)(h:∀ i,i<n->leL (f i) (f' i)):VV.le (.sl fz n s f) (.sl fz n s' f'):=by
 intro w E m v hv
 obtain⟨a,cap,rfl,h1,h2,h3⟩:=hv.sl_inv
 refine V.sl_mk h1 h2 fun hn=>?_
 obtain rfl:=hs.resolve_right (by omega)
 obtain⟨b,off,e,k1,k2,k3,u,k4,k5⟩:=h3 hn
 refine⟨b,off,e,k1,k2,fun i hi=>by rw[← (Ha (h i hi)).1];exact k3 i hi,u,fun i j y hi hy=>?_,fun i j y hi hy=>?_⟩
 ·obtain⟨x,hx,_⟩:=(Ha (h i hi)).2 j y hy
  exact k4 i j x hi hx
 ·obtain⟨x,hx,hle⟩:=(Ha (h i hi)).2 j y hy
  exact hle _ _ _ _ (k5 i j x hi hx)
theorem VV.le_agg {l l':List VV}(h:leL l l'):VV.le (.agg l) (.agg l'):=by
 intro w E m v hv
 obtain⟨vs,rfl,h1,h2⟩:=hv.agg_inv
 obtain⟨k1,k2⟩:=Ha h
 exact .agg (h1.trans k1) fun j y hy=>let ⟨x,hx,hle⟩:=k2 j y hy;hle _ _ _ _ (h2 j x hx)
theorem VV.le_tup {l l':List VV}(h:leL l l'):VV.le (.tup l) (.tup l'):=by
 intro w E m v hv
 cases hv with | tup h1 h2 =>
 obtain⟨k1,k2⟩:=Ha h
 exact .tup (h1.trans k1) fun j y hy=>let ⟨x,hx,hle⟩:=k2 j y hy;hle _ _ _ _ (h2 j x hx)
def Ob.le (o o':Ob):Prop:=∀ (w:World) (E:A0) (φ:Phi) (p:Pl),ObV w E φ o p->ObV w E φ o' p
theorem Ob.le_refl (o:Ob):Ob.le o o:=fun _ _ _ _ h=>h
theorem Ob.le_box {l l':List VV}(h:leL l l'):Ob.le (.box l) (.box l'):=by
 intro w E φ p hp
 cases p with
 | arr=>exact hp.elim
 | box b =>
  obtain⟨c,ty,h1,h2⟩:=hp
  obtain⟨k1,k2⟩:=Ha h
  exact⟨c,ty,h1,h2.1.trans k1,fun j y hy=>let ⟨x,hx,hle⟩:=k2 j y hy;hle _ _ _ _ (h2.2 j x hx)⟩
theorem Ob.le_arr {fr:Bool}{g n s:Nat}{f f':Nat->List VV}(h:∀ i,i<n->leL (f i) (f' i)):Ob.le (.arr fr g n s f) (.arr fr g n s f'):=by
 intro w E φ p hp
 cases p with
 | box b=>exact hp.elim
 | arr g' n' hd =>
  obtain⟨rfl,rfl,hrow⟩:=hp
  refine⟨rfl,rfl,?_⟩
  match hd,hrow with
  | none,hrow=>exact hrow
  | some (b,cap),hrow =>
   obtain⟨c,ty,h1,h2,h3,h4,h5,h6,h7⟩:=hrow
   refine⟨c,ty,h1,h2,h3,h4,fun i hi=>by rw[← (Ha (h i hi)).1];exact h5 i hi,fun i j y hi hy=>?_,h7⟩
   obtain⟨x,hx,hle⟩:=(Ha (h i hi)).2 j y hy
   cases fr with
   | true=>exact hle _ _ _ _ (h6 i j x hi hx)
   | false=>exact hle _ _ _ _ (h6 i j x hi hx)
theorem Ob.le_kar {g n s k:Nat}{r r':List VV}{f f':Nat->List VV}(h:∀ i,i<n->i≠k->leL (f i) (f' i))(hr:leL r r'):Ob.le (.kar g n s k r f) (.kar g n s k r' f'):=by
 have hd:∀ l:List VV,leL l l:=FJ
 intro w E φ p hp
 obtain⟨h1,h2⟩:=Ea.1 hp
 refine Ea.2 ⟨Ob.le_arr (fun i hi=>?_) w E φ p h1,Ob.le_arr (fun i hi=>?_) w E φ p h2⟩<;>(by_cases hk:i=k)
 ·subst hk;rw[DG,DG];exact hr
 ·rw[C2 hk,C2 hk];exact h i hi hk
 ·subst hk;rw[DG,DG];exact hd _
 ·rw[C2 hk,C2 hk];exact h i hi hk
theorem Ob.le_kar0 {g n s k:Nat}{f:Nat->List VV}(h:n<=k):Ob.le (.arr true g n s f) (.kar g n s k [] f):=by
 intro w E φ p hp
 cases p with
 | box b=>exact hp.elim
 | arr g' n' hd =>
  obtain⟨rfl,rfl,hrow⟩:=hp
  refine⟨rfl,rfl,hrow.both hrow (fun i hi=>by rw[C2 (by omega)]) fun i j x hi hx u hu _=>?_,hrow.both hrow (fun i hi=>by rw[C2 (by omega)]) fun i j x hi hx u hu _=>?_⟩
  ·rw[C2 (by omega)]at hx;exact Dx.any (hu x hx)
  ·rw[C2 (by omega)]at hx;exact hu x hx
def leO : List Ob->List Ob->Prop
 | [],[]=>True
 | o::os,o'::os'=>Ob.le o o'/\leO os os'
 | _,_=>False
theorem Ie : ∀ {l l':List Ob},leO l l'->l.length=l'.length/\∀ (j:Nat),Ob.le (CG l j) (CG l' j)
 | [],[],_=>⟨rfl,fun j=>Ob.le_refl _⟩
 | x::l,y::l',h=>by
  obtain⟨h1,h2⟩:=Ie h.2
  refine⟨by simp[h1],fun j=>?_⟩
  match j with
  | 0=>exact h.1
  | j+1=>exact h2 j
theorem HRel.le {l l':List Ob}(h:HRel E (CG l) φ w)(hl:leO l l'):HRel E (CG l') φ w :=
 ⟨h.sub,fun id p e=>(Ie hl).2 id _ _ _ _ (h.ob id p e),h.inj,h.free⟩
def leT : List (Nat × VV)->List (Nat × VV)->Prop
 | [],[]=>True
 | (i,x)::l,(j,y)::l'=>(i=j/\VV.le x y)/\leT l l'
 | _,_=>False
theorem AU : ∀ (l:List (Nat × VV)),leT l l
 | []=>trivial
 | (_,x)::xs=>⟨⟨rfl,VV.le_refl x⟩,AU xs⟩
theorem Pa : ∀ {l l':List (Nat × VV)},leT l l'->∀ t,VV.le (C6 t l) (C6 t l')
 | [],[],_,_=>VV.le_refl _
 | (i,x)::l,(j,y)::l',h,t=>by
  obtain⟨⟨rfl,h1⟩,h2⟩:=h
  simp only[C6]
  cases Nat.beq t i with
  | true=>exact h1
  | false=>exact Pa h2 t
theorem Sat.le {p:List Nat}{c:Code}{K:Exit->St->Prop}{l l':List (Nat × VV)}{hs hs':List Ob}(h1:leT l l')(h2:leO hs hs')(h:Sat P N b p c K (Av l' hs')):Sat P N b p c K (Av l hs) :=
 ⟨fun E φ a w hr=>h.h E φ a w ⟨hr.sz,hr.df,hr.old,fun t=>Pa h1 _ _ _ _ _ (hr.tm t),hr.hp.le h2,fun id hid=>hr.fr id (by
  show hs.length<=id
  rw[(Ie h2).1];exact hid),fun id hid=>hr.lv id (by
  show id<hs.length
  rw[(Ie h2).1];exact hid)⟩⟩
theorem Mp {t:Nat}{x y:VV}:∀ {l:List (Nat × VV)} {k:Nat},l[k]?=some (t,x)->∀ i,C6 i (l.set k (t,y))=C6 i l∨(C6 i l=x/\C6 i (l.set k (t,y))=y)
 | [],k,h,i=>by simp at h
 | (j,z)::l,0,h,i=>by
  simp only[List.getElem?_cons_zero,Option.some.injEq,Prod.mk.injEq]at h
  obtain⟨rfl,rfl⟩:=h
  simp only[List.set_cons_zero,C6]
  cases Nat.beq i j with
  | true=>exact .inr ⟨rfl,rfl⟩
  | false=>exact .inl rfl
 | (j,z)::l,k+1,h,i=>by
  simp only[List.set_cons_succ,C6]
  cases Nat.beq i j with
  | true=>exact .inl rfl
  | false=>exact Mp (l:=l) (k:=k) h i
theorem Sat.own {p:List Nat}{c:Code}{K:Exit->St->Prop}{l:List (Nat × VV)}{hs:List Ob}(k t sz:Nat)(f:Nat->List VV)(hk:l[k]?=some (t,.nl))(h:Sat P N b p c K (Av (l.set k (t,.ow hs.length 0 0)) (hs++[.arr true 0 0 sz f]))):Sat P N b p c K (Av l hs):=by
 refine⟨fun E φ a w hr=>?_⟩
 have hnone:φ hs.length=none:=hr.fr _ (Nat.le_refl _)
 have hroom:Room w [Pl.arr 0 0 none] w:=Room.one (Below.refl _ _) fun k hk=>by obtain⟨_,e'⟩:=hk;cases e'
 have hidn:∀ i,i<[Ob.arr true 0 0 sz f].length->φ (hs.length+i)=none:=fun i hi=>by
  simp only[List.length_cons,List.length_nil,Nat.zero_add,Nat.lt_one_iff]at hi
  subst hi;exact hnone
 have hnews:EL w E φ hs.length [Ob.arr true 0 0 sz f] [Pl.arr 0 0 none] w:=EL.one hroom ⟨rfl,rfl,rfl⟩
 have hext:=hnews.ext hidn
 have hat:addP φ hs.length [Pl.arr 0 0 none] hs.length=some (.arr 0 0 none):=F3 (i:=0) rfl
 have hlt:∀ id,φ id≠none->id<hs.length:=fun id hn=>by
  rcases Nat.lt_or_ge id hs.length with h' | h'
  ·exact h'
  ·exact absurd (hr.fr id h') hn
 refine Go.wp_mono (h.h E (addP φ hs.length [Pl.arr 0 0 none]) a w ⟨hr.sz,hr.df,hr.old.ext hext,fun t'=>?_,?_,fun id hid=>?_,fun id hid=>?_⟩) fun e a' w' ⟨E',st',φ',h0,h1,h2,h3⟩=>⟨E',st',φ',h0,h1,h2,(Fr.of_ext hext).trans h3⟩
 ·show V w _ _ (C6 t' _) _
  have hv:V w _ _ (C6 t' l) _:=hr.tm t'
  rcases Mp (y:=.ow hs.length 0 0) hk t' with e | ⟨e1,e2⟩
  ·rw[e];exact hv.ext hext
  ·rw[e2]
   rw[e1]at hv
   rw[hv.nl_inv]
   exact .ow hat (Nat.le_refl _) (hd0:=none) ⟨rfl,rfl⟩ fun _=>⟨rfl,Nat.le_refl _⟩
 ·refine hr.hp.news hr.old.lt hnews hidn (fun k hk=>?_) fun i o ho=>?_
  ·have:=hlt k hk
   show CG (hs++_) k=CG hs k
   simp[CG,List.getElem?_append_left this]
  ·show CG (hs++_) (hs.length+i)=o
   unfold CG
   rw[List.getD_eq_getElem?_getD,List.getElem?_append_right (by omega),show hs.length+i - hs.length=i by omega,ho]
   rfl
 ·have hid':(hs++[Ob.arr true 0 0 sz f]).length<=id:=hid
  simp only[List.length_append,List.length_cons,List.length_nil]at hid'
  rw[Er (.inr (by simp;omega))]
  exact hr.fr id (by show hs.length<=id;omega)
 ·have hid':id<(hs++[Ob.arr true 0 0 sz f]).length:=hid
  simp only[List.length_append,List.length_cons,List.length_nil]at hid'
  by_cases he:id=hs.length
  ·subst he;rw[hat];simp
  ·rw[Er (.inl (by omega))]
   exact hr.lv id (by show id<hs.length;omega)
structure PZ (st st':St):Prop where
 t:∀ t,VV.le (st.t t) (st'.t t)
 H:∀ id,Ob.le (st.H id) (st'.H id)
 nx:st.nx=st'.nx
theorem PZ.refl (st:St):PZ st st:=⟨fun _=>VV.le_refl _,fun _=>Ob.le_refl _,rfl⟩
theorem PZ.mk' {l l':List (Nat × VV)}{hs hs':List Ob}(h1:leT l l')(h2:leO hs hs'):PZ (Av l hs) (Av l' hs'):=⟨Pa h1,(Ie h2).2,(Ie h2).1⟩
theorem AZ {l l':List VV}(h:l=l'):leL l l':=by subst h;exact FJ l
theorem VV.le_eq {x y:VV}(h:x=y):VV.le x y:=by subst h;exact VV.le_refl x
theorem Rel.le {st':St}(h:Rel N E st φ a w)(hl:PZ st st'):Rel N E st' φ a w :=
 ⟨h.sz,h.df,h.old,fun t=>hl.t t _ _ _ _ (h.tm t),⟨h.hp.sub,fun id p e=>hl.H id _ _ _ _ (h.hp.ob id p e),h.hp.inj,h.hp.free⟩,fun id hid=>h.fr id (by rw[hl.nx];exact hid),fun id hid=>h.lv id (by rw[hl.nx];exact hid)⟩
def Cv (st st':St):Prop:=∀ (N:Nat) (E:A0) (φ:Phi) (a:Act) (w:World),Rel N E st φ a w->∃ φ',Rel N E st' φ' a w/\Ext w φ w φ'
theorem PZ.cv {st st':St}(h:PZ st st'):Cv st st':=fun _ _ φ _ w hr=>⟨φ,hr.le h,Ext.refl w φ⟩
theorem Cv.trans {st st' st'':St}(h:Cv st st')(k:Cv st' st''):Cv st st'':=fun N E φ a w hr =>
 let ⟨φ1,r1,e1⟩:=h N E φ a w hr
 let ⟨φ2,r2,e2⟩:=k N E φ1 a w r1
 ⟨φ2,r2,e1.trans e2⟩
theorem Sat.cv {p:List Nat}{c:Code}{K:Exit->St->Prop}{st st':St}(h:Cv st st')(k:Sat P N b p c K st'):Sat P N b p c K st :=
 ⟨fun E φ a w hr =>
  let ⟨_,r1,e1⟩:=h N E φ a w hr
  Go.wp_mono (k.h E _ a w r1) fun _ _ _ ⟨E',st',φ',h0,h1,h2,h3⟩=>⟨E',st',φ',h0,h1,h2,(Fr.of_ext e1).trans h3⟩⟩
theorem Cv.ownBox {l:List (Nat × VV)}{hs:List Ob}{cs:List VV}(i j sz:Nat)(f:Nat->List VV)(hi:hs[i]?=some (.box cs))(hj:cs[j]?=some .nl) :
  Cv (Av l hs) (Av l (hs.set i (.box (cs.set j (.ow hs.length 0 0)))++[.arr true 0 0 sz f])):=by
 intro N E φ a w hr
 have hnone:φ hs.length=none:=hr.fr _ (Nat.le_refl _)
 have hroom:Room w [Pl.arr 0 0 none] w:=Room.one (Below.refl _ _) fun k hk=>by obtain⟨_,e'⟩:=hk;cases e'
 have hidn:∀ i,i<[Ob.arr true 0 0 sz f].length->φ (hs.length+i)=none:=fun i hi=>by
  simp only[List.length_cons,List.length_nil,Nat.zero_add,Nat.lt_one_iff]at hi
  subst hi;exact hnone
 have hnews:EL w E φ hs.length [Ob.arr true 0 0 sz f] [Pl.arr 0 0 none] w:=EL.one hroom ⟨rfl,rfl,rfl⟩
 have hext:=hnews.ext hidn
 have hat:addP φ hs.length [Pl.arr 0 0 none] hs.length=some (.arr 0 0 none):=F3 (i:=0) rfl
 have hil:i<hs.length:=(List.getElem?_eq_some_iff.1 hi).1
 have hlt:∀ id,φ id≠none->id<hs.length:=fun id hn=>by
  rcases Nat.lt_or_ge id hs.length with h' | h'
  ·exact h'
  ·exact absurd (hr.fr id h') hn
 have hp:=hr.hp.news (H':=CG (hs++[.arr true 0 0 sz f])) hr.old.lt hnews hidn (fun k hk=>by
  have:=hlt k hk
  show CG (hs++_) k=CG hs k
  simp[CG,List.getElem?_append_left this]) fun i o ho=>by
  show CG (hs++_) (hs.length+i)=o
  unfold CG
  rw[List.getD_eq_getElem?_getD,List.getElem?_append_right (by omega),show hs.length+i - hs.length=i by omega,ho]
  rfl
 refine⟨addP φ hs.length [Pl.arr 0 0 none],⟨hr.sz,hr.df,hr.old.ext hext,fun t=>V.ext (hr.tm t) hext,⟨hp.sub,fun id p e=>?_,hp.inj,hp.free⟩,fun id hid=>?_,fun id hid=>?_⟩,hext⟩
 ·have hob:=hp.ob id p e
  show ObV w E _ (CG (hs.set i _++_) id) p
  by_cases he:id=i
  ·subst he
   have e1:CG (hs++[Ob.arr true 0 0 sz f]) id=.box cs:=by simp[CG,List.getElem?_append_left hil,hi]
   have e2:CG (hs.set id (.box (cs.set j (.ow hs.length 0 0)))++[Ob.arr true 0 0 sz f]) id=.box (cs.set j (.ow hs.length 0 0)):=by
    simp[CG,List.getElem?_append_left,hil]
   rw[e1]at hob
   rw[e2]
   cases p with
   | arr=>exact hob.elim
   | box b =>
    obtain⟨c,ty,h1,h2⟩:=hob
    refine⟨c,ty,h1,by simp[h2.1],fun k x hx=>?_⟩
    rw[List.getElem?_set]at hx
    split at hx
    ·rename_i hjk
     subst hjk
     split at hx
     ·simp only[Option.some.injEq]at hx
      subst hx
      have:=h2.2 j _ hj
      rw[this.nl_inv]
      exact .ow hat (Nat.le_refl _) (hd0:=none) ⟨rfl,rfl⟩ fun _=>⟨rfl,Nat.le_refl _⟩
     ·cases hx
    ·exact h2.2 k x hx
  ·have e1:CG (hs.set i (.box (cs.set j (.ow hs.length 0 0)))++[Ob.arr true 0 0 sz f]) id=CG (hs++[Ob.arr true 0 0 sz f]) id:=by
    rcases Nat.lt_or_ge id hs.length with h' | h'
    ·simp[CG,List.getElem?_append_left,h',List.getElem_set_ne (Ne.symm he)]
    ·simp[CG,List.getElem?_append_right,h']
   rw[e1];exact hob
 ·have hid':(hs.set i (.box (cs.set j (.ow hs.length 0 0)))++[Ob.arr true 0 0 sz f]).length<=id:=hid
  simp only[List.length_append,List.length_set,List.length_cons,List.length_nil]at hid'
  rw[Er (.inr (by simp;omega))]
  exact hr.fr id (by show hs.length<=id;omega)
 ·have hid':id<(hs.set i (.box (cs.set j (.ow hs.length 0 0)))++[Ob.arr true 0 0 sz f]).length:=hid
  simp only[List.length_append,List.length_set,List.length_cons,List.length_nil]at hid'
  by_cases he:id=hs.length
  ·subst he;rw[hat];simp
  ·rw[Er (.inl (by omega))]
   exact hr.lv id (by show id<hs.length;omega)
theorem Cv.pub {l:List (Nat × VV)}{hs:List Ob}{k t id gen n n' sz:Nat}{f:Nat->List VV}(hk:l[k]?=some (t,.ow id gen n))(ho:hs[id]?=some (.arr true gen n' sz f)) :
  Cv (Av l hs) (Av (l.set k (t,.sl true n sz f)) (hs.set id (.gone (gen+1)))):=by
 intro N E φ a w hr
 have hil:id<hs.length:=(List.getElem?_eq_some_iff.1 ho).1
 have e0:CG hs id=.arr true gen n' sz f:=by simp[CG,ho]
 have hpub:Fj (CG hs) 1 (.ow id gen n)=some (.sl true n sz f,[id]):=by
  unfold Fj
  simp only[e0,Nat.beq_refl,cond_true]
 have hg:=hr.hp.gone (ids:=[id])
 have eH:Dp [id] (CG hs)=CG (hs.set id (.gone (gen+1))):=by
  funext j
  unfold Dp
  by_cases hj:j=id
  ·subst hj
   simp only[List.any_cons,List.any_nil,Nat.beq_refl,Bool.true_or,cond_true,e0]
   simp[CG,hil]
  ·have:Nat.beq j id=false:=by
    cases hq:Nat.beq j id with
    | true=>exact absurd (Nat.eq_of_beq_eq_true hq) hj
    | false=>rfl
   simp only[List.any_cons,List.any_nil,this,Bool.or_false,cond_false]
   simp[CG,List.getElem?_set_ne (Ne.symm hj)]
 refine⟨Cg [id] φ,⟨hr.sz,hr.df,hr.old.ext Cq,fun t'=>?_,?_,fun j hj=>?_,fun j hj=>?_⟩,Cq⟩
 ·show V w _ _ (C6 t' _) _
  have hv:V w _ _ (C6 t' l) _:=hr.tm t'
  rcases Mp (y:=.sl true n sz f) hk t' with e | ⟨e1,e2⟩
  ·rw[e];exact hv.ext Cq
  ·rw[e2]
   rw[e1]at hv
   exact(H4 hr.hp (ids:=[id]) 1 _ _ _ _ hv hpub (fun i hi=>hi)).mem rfl rfl
 ·show HRel E (CG (hs.set id (.gone (gen+1)))) _ w
  rw[← eH];exact hg
 ·have hj':(hs.set id (.gone (gen+1))).length<=j:=hj
  rw[List.length_set]at hj'
  exact Cb.2 (hr.fr j hj')
 ·have hj':j<(hs.set id (.gone (gen+1))).length:=hj
  rw[List.length_set]at hj'
  exact fun h=>hr.lv j hj' (Cb.1 h)
def Up (J:St->Prop)(st:St):Prop:=∃ st',Cv st st'/\J st'
theorem Up.mk {J:St->Prop}{l l':List (Nat × VV)}{hs hs':List Ob}(h1:leT l l')(h2:leO hs hs')(h:J (Av l' hs')):Up J (Av l hs):=⟨_,(PZ.mk' h1 h2).cv,h⟩
theorem Up.of {J:St->Prop}{st:St}(h:J st):Up J st:=⟨st,(PZ.refl st).cv,h⟩
theorem Up.cv {J:St->Prop}{st st':St}(h:Cv st st')(k:Up J st'):Up J st:=let ⟨_,k1,k2⟩:=k;⟨_,h.trans k1,k2⟩
theorem Adi (hT:TOk P T)(hmx:P.follows .mixedOrders=true){lc:Code}(c:Code){K:Exit->St->Prop}{st:St}{p:List Nat}(Sh:Shs)(L:Ann)(keep:List Nat)(J:Nat->St->Prop)(hlc:lc=.loop c)(hB:EH N c=true)(hJ:∃ g,Up (J g) st)
  (round:∀ g st,J g st->xc P T Sh N L (0::p) c (AeZ L.base keep (fun st'=>∃ g',g'<g/\Up (J g') st') K) st):Sat P N L.base p lc K st:=by
 subst hlc
 refine⟨fun E φ a w hr=>?_⟩
 obtain⟨g0,st0,hle0,hg0⟩:=hJ
 obtain⟨φ0,hr0,he0⟩:=hle0 N E φ a w hr
 refine PO (fun g a' w'=>∃ E' st' φ',E.Le E'/\J g st'/\Rel N E' st' φ' a' w'/\Fr L.base w φ w' φ') ⟨g0,E,st0,φ0,.refl E,hg0,hr0,Fr.of_ext he0⟩ ?_
 rintro g a' w' ⟨E',st',φ',h0,h1,h2,h3⟩
 refine Go.wp_mono ((G3 hT hmx c hB _ _ st' (round g st' h1)).h E' φ' a' w' h2) ?_
 rintro e a'' w'' ⟨E'',st'',φ'',g0,g1,g2,g3⟩
 cases e with
 | normal =>
  simp only[AeZ]at g1
  cases hq:okF L.base keep st'' with
  | false=>rw[hq]at g1;exact g1.elim
  | true =>
   rw[hq]at g1
   obtain⟨g',k2,st1,hle1,k3⟩:=g1
   obtain⟨φ3,r3,f3⟩:=g2.forget hq
   obtain⟨φ4,r4,e4⟩:=hle1 _ _ _ _ _ r3
   exact⟨g',k2,E'',st1,φ4,h0.trans g0,k3,r4,h3.trans (g3.trans (f3.trans (Fr.of_ext e4)))⟩
 | _=>exact⟨E'',st'',φ'',h0.trans g0,g1,g2,h3.trans g3⟩
theorem Nr {c rest:Code}{Q:Exit->Act->World->Prop}{a:Act}{w:World}(l:Nat)(J:Nat->Act->World->Prop)(hf:findLabel c l=some rest)
  (first:c.wp P (Exit.jump l (fun a w=>∃ g,J g a w) Q) a w)
  (pass:∀ g a w,J g a w->rest.wp P (Exit.jump l (fun a' w'=>∃ g',g'<g/\J g' a' w') Q) a w):(Code.scope c).wp P Q a w:=by
 classical
 let μ:Act->World->Nat:=fun a w=>if h:∃ g,J g a w then Classical.choose (F9 h) else 0
 have hμ:∀ a w,(h:∃ g,J g a w)->J (μ a w) a w/\∀ g',J g' a w->μ a w<=g':=by
  intro a w h
  have e:μ a w=Classical.choose (F9 h):=dif_pos h
  rw[e];exact Classical.choose_spec (F9 h)
 refine wp_scope_jumps l (fun a w=>∃ g,J g a w) μ hf first ?_
 intro a w hx
 refine Go.wp_mono (pass _ a w (hμ a w hx).1) fun e a' w' h=>?_
 cases e with
 | goto l' =>
  obtain⟨h1,g',hlt,hj⟩:=h
  exact⟨h1,⟨g',hj⟩,Nat.lt_of_le_of_lt ((hμ _ _ ⟨g',hj⟩).2 g' hj) hlt⟩
 | _=>exact h
theorem Z0 (hT:TOk P T)(hmx:P.follows .mixedOrders=true){lc:Code}(c rest:Code){K:Exit->St->Prop}{st:St}{p:List Nat}(Sh:Shs)(L:Ann)(keep:List Nat)(l:Nat)(J:Nat->St->Prop)(hlc:lc=.scope c)(hf:findLabel c l=some rest)(hB:EH N c=true)(hB':EH N rest=true)
  (first:xc P T Sh N L (0::p) c (Q4 l L.base keep (fun st'=>∃ g,Up (J g) st') K) st)
  (pass:∀ g st,J g st->xc P T Sh N L (1::p) rest (Q4 l L.base keep (fun st'=>∃ g',g'<g/\Up (J g') st') K) st):Sat P N L.base p lc K st:=by
 subst hlc
 refine⟨fun E φ a w hr=>?_⟩
 have conv:∀ (J1:St->Prop) (J2:Act->World->Prop) (E1:A0) (φ1:Phi) (w1:World),E.Le E1->Fr L.base w φ w1 φ1->(∀ E' st' φ' a' w',E.Le E'->J1 st'->Rel N E' st' φ' a' w'->Fr L.base w φ w' φ'->J2 a' w')->∀ e a' w',(∃ E' st' φ',E1.Le E'/\Q4 l L.base keep J1 K e st'/\Rel N E' st' φ' a' w'/\Fr L.base w1 φ1 w' φ') ->
   Exit.jump l J2 (fun e a' w'=>∃ E' st' φ',E.Le E'/\K e st'/\Rel N E' st' φ' a' w'/\Fr L.base w φ w' φ') e a' w':=by
  rintro J1 J2 E1 φ1 w1 hE1 hf1 hJ e a' w' ⟨E',st',φ',g0,g1,g2,g3⟩
  cases e with
  | goto l' =>
   simp only[Q4]at g1
   cases hq:(Nat.beq l' l&&okF L.base keep st') with
   | false=>rw[hq]at g1;exact g1.elim
   | true =>
    rw[hq]at g1
    rw[Bool.and_eq_true]at hq
    obtain⟨φ3,r3,f3⟩:=g2.forget hq.2
    exact⟨Nat.eq_of_beq_eq_true hq.1,hJ E' _ φ3 _ _ (hE1.trans g0) g1 r3 (hf1.trans (g3.trans f3))⟩
  | _=>exact⟨E',st',φ',hE1.trans g0,g1,g2,hf1.trans g3⟩
 refine Nr l (fun g a' w'=>∃ E' st' φ',E.Le E'/\J g st'/\Rel N E' st' φ' a' w'/\Fr L.base w φ w' φ') hf ?_ ?_
 ·exact Go.wp_mono ((G3 hT hmx c hB _ _ st first).h E φ a w hr) (conv _ _ E φ w (.refl E) (Fr.refl _ _ _) fun E' st' φ' a' w' h0 ⟨g,st1,hle,hg⟩ h2 h3=>let ⟨φ4,r4,e4⟩:=hle _ _ _ _ _ h2;⟨g,E',st1,φ4,h0,hg,r4,h3.trans (Fr.of_ext e4)⟩)
 ·rintro g a' w' ⟨E',st',φ',h0,h1,h2,h3⟩
  exact Go.wp_mono ((G3 hT hmx rest hB' _ _ st' (pass g st' h1)).h E' φ' a' w' h2) (conv _ _ E' φ' w' h0 h3 fun E'' st' φ' a' w' h0 ⟨g',hlt,st1,hle,hg⟩ h2 h3=>let ⟨φ4,r4,e4⟩:=hle _ _ _ _ _ h2;⟨g',hlt,E'',st1,φ4,h0,hg,r4,h3.trans (Fr.of_ext e4)⟩)
end
end
section
def St.init (hs:List Ob)(xs:List VV):St:={ t:=fun i=>xs.getD i .dead,H:=CG hs,nx:=hs.length }
def Yp (T:TypeId->TE)(st:St):ResultVar->Option VV
 | .tmp t=>some (st.t t)
 | .cell p t=>match II T st t (st.t p) with
  | { val:=x,new:=_,put:=_,chk:=[] }=>some x
  | _=>none
def Qa (T:TypeId->TE)(st:St):List ResultVar->Option (List VV)
 | []=>some []
 | r::rs=>match Yp T st r,Qa T st rs with
  | some x,some xs=>some (x::xs)
  | _,_=>none
def N8 (T:TypeId->TE)(st:St)(rs:List ResultVar):Option VV :=
 match Qa T st rs with
 | some [x]=>some x
 | some xs=>some (.tup xs)
 | none=>none
def Y3 (b:Nat)(st:St)(x:VV):Option (List Ob × VV) :=
 bif QT st b (Mm st b (Hl 8 x)) then some ((Mm st b (Hl 8 x)).map (I7 st (Mm st b (Hl 8 x))),UE st (Mm st b (Hl 8 x)) x) else none
def Y2 (T:TypeId->TE)(pub:Bool)(b:Nat)(rs:List ResultVar)(st:St):Option (List Ob × VV) :=
 match N8 T st rs with
 | some x =>
  bif pub then
   match Fj st.H (st.nx+4) x with
   | some (y,ids)=>Y3 b { st with H:=Dp ids st.H } y
   | none=>none
  else Y3 b st x
 | none=>none
def AiZ (T:TypeId->TE)(pub:Bool)(b:Nat)(rs:List ResultVar)(hs:List Ob)(r:VV):Exit->St->Prop
 | .normal,st | .ret,st=>match Y2 T pub b rs st with
  | some (hs',r')=>leO hs' hs/\VV.le r' r
  | none=>False
 | _,_=>False
section
variable {P : Program} {T:TypeId->TE} {Sh:Shs} {N b:Nat} {L:Ann} {w:World} {E:A0} {φ:Phi} {st:St} {a:Act}
theorem AcA (hT:TOk P T)(h:Rel N E st φ a w){r:ResultVar}{x:VV}(hr:Yp T st r=some x) :
  ∃ v,(match r with | .tmp t=>pure (a.tmps.getD t undef) | .cell p t=>do loadVar t (← asAddr (a.tmps.getD p undef)):Sem Value).run P w=.ok v w/\V w (E.up φ) (some φ) x v:=by
 cases r with
 | tmp t =>
  simp only[Yp,Option.some.injEq]at hr
  subst hr
  exact⟨_,rfl,h.tm t⟩
 | cell p t =>
  simp only[Yp]at hr
  split at hr
  ·rename_i y n u hl
   simp only[Option.some.injEq]at hr
   subst hr
   have hp:=h.tm p
   obtain⟨v,e1,e2⟩:=Adl (P:=P) hT h.hp (fun _ _=>rfl) hp (t:=t) (by rw[hl];intro p hp;simp at hp)
   rw[hl]at e2
   refine⟨v,?_,e2⟩
   have haddr:∃ ad,a.tmps.getD p undef=.pointer (some ad):=by
    generalize a.tmps.getD p undef=vp at hp
    generalize st.t p=z at hp hl
    cases z with
    | bp id off=>obtain⟨b,_,e⟩:=hp.bp_inv;exact⟨_,e⟩
    | ep id gen sz i o=>obtain⟨_,_,_,b,_,_,e,_⟩:=hp.ep_inv;exact⟨_,e⟩
    | tp cs=>obtain⟨b,off,e,_⟩:=hp.tp_inv;exact⟨_,e⟩
    | _=>simp[II,Res.bad]at hl
   obtain⟨ad,e⟩:=haddr
   rw[e]at e1
   simp only[e,asAddr,Sem.run_bind,Sem.run_pure,Result.andThen_ok]
   simpa[Instr.loadAt,Instr.sureAddr] using e1
  ·cases hr
theorem SR (hT:TOk P T)(h:Rel N E st φ a w):∀ (rs:List ResultVar) (xs:List VV),Qa T st rs=some xs ->
  ∃ vs:List Value,(rs.mapM (fun r=>match r with | .tmp t=>pure (a.tmps.getD t undef) | .cell p t=>do loadVar t (← asAddr (a.tmps.getD p undef)):ResultVar->Sem Value)).run P w=.ok vs w/\DM w (E.up φ) (some φ) xs vs.toArray
 | [],xs,hx=>by
  simp only[Qa,Option.some.injEq]at hx
  subst hx
  exact⟨[],rfl,rfl,fun j x h=>by simp at h⟩
 | r::rs,xs,hx=>by
  simp only[Qa]at hx
  split at hx
  ·rename_i x xs' h1 h2
   simp only[Option.some.injEq]at hx
   subst hx
   obtain⟨v,e1,e2⟩:=AcA hT h h1
   obtain⟨vs,g1,g2⟩:=SR hT h rs xs' h2
   refine⟨v::vs,?_,by simp[← g2.1],fun j y hy=>?_⟩
   ·rw[List.mapM_cons]
    simp only[Sem.run_bind,e1,g1,Result.andThen_ok,Sem.run_pure]
   ·match j,hy with
    | 0,hy=>simp only[List.getElem?_cons_zero,Option.some.injEq]at hy;subst hy;exact e2
    | j+1,hy =>
     have:=g2.2 j y hy
     simpa[Array.getD_eq_getD_getElem?] using this
  ·cases hx
theorem SQ (hT:TOk P T)(h:Rel N E st φ a w){fn:Func}{r:VV}(hr:N8 T st fn.results.toList=some r):∃ v,(results fn a.tmps).run P w=.ok v w/\V w (E.up φ) (some φ) r v:=by
 unfold N8 at hr
 cases hx:Qa T st fn.results.toList with
 | none=>rw[hx]at hr;cases hr
 | some xs =>
  obtain⟨vs,g1,g2⟩:=SR hT h _ xs hx
  have hrun:(results fn a.tmps).run P w=.ok (if h:vs.toArray.size=1 then vs.toArray[0] else .tuple vs.toArray) w:=by
   unfold results
   rw[Array.mapM_eq_mapM_toList,Sem.run_bind,Sem.run_map]
   have key:∀ (r:Result (List Value)),r=.ok vs w->((r.andThen fun a w'=>Result.ok a.toArray w').andThen fun a w'=>Sem.run P (pure (if h:a.size=1 then a[0] else Value.tuple a)) w')=.ok (if h:vs.toArray.size=1 then vs.toArray[0] else .tuple vs.toArray) w:=by rintro _ rfl;rfl
   exact key _ g1
  refine⟨_,hrun,?_⟩
  rw[hx]at hr
  match xs,hr,g2 with
  | [],hr,g2 =>
   simp only[Option.some.injEq]at hr
   subst hr
   have h0:vs.toArray.size=0:=g2.1
   rw[dif_neg (by omega)]
   exact .tup g2.1 g2.2
  | [x],hr,g2 =>
   simp only[Option.some.injEq]at hr
   subst hr
   have h0:vs.toArray.size=1:=g2.1
   rw[dif_pos h0]
   have:=g2.2 0 x rfl
   simp only[Array.getD]at this
   rw[dif_pos (by omega)]at this
   exact this
  | x::y::xs,hr,g2 =>
   simp only[Option.some.injEq]at hr
   subst hr
   have h0:vs.toArray.size=xs.length+2:=by rw[g2.1];simp
   rw[dif_neg (by omega)]
   exact .tup g2.1 g2.2
def fnB (fn:Func)(n:Nat):Bool:=fn.body.isSome&&EH fn.ntmps (fn.body.getD .skip)&&!(fn.name == "runtime.NumGoroutine")&&Nat.ble n fn.ntmps
def X9 (fn:Func):Code:=fn.body.getD .skip
theorem Uo (h:HRel E st.H φ w)(hlv:∀ id,id<st.nx->φ id≠none){x:VV}{v:Value}(hx:V w (E.up φ) (some φ) x v){hs:List Ob}{r:VV}(ho:Y3 b st x=some (hs,r)) :
  ∃ φ',HRel E (CG hs) φ' w/\Fr b w φ w φ'/\(∀ id,φ' id≠none ↔ id<hs.length)/\V w (E.up φ') (some φ') r v:=by
 unfold Y3 at ho
 generalize Mm st b (Hl 8 x)=ids at ho
 cases hk:QT st b ids with
 | false=>rw[hk]at ho;cases ho
 | true =>
  rw[hk]at ho
  simp only[cond_true,Option.some.injEq,Prod.mk.injEq]at ho
  obtain⟨rfl,rfl⟩:=ho
  obtain⟨hk1,hk2⟩:=QS hk
  refine⟨Em ids φ,h.lend hk1 (fun _ h=>.inl h) (fun _ h=>.inl h) h.sub (fun j id e=>by simp[CG,e]),Y8 hk2,fun id=>?_,F0 (Ib h (fun _ h=>.inl h) fun _ h=>.inl h) _ _ _ hx⟩
  rw[List.length_map]
  exact Kx hk1 hlv id
theorem AeL (hT:TOk P T)(h:Rel N E st φ a w){fn:Func}{pub:Bool}{hs:List Ob}{r:VV}(ho:Y2 T pub b fn.results.toList st=some (hs,r)) :
  ∃ v φ',(results fn a.tmps).run P w=.ok v w/\HRel E (CG hs) φ' w/\Fr b w φ w φ'/\(∀ id,φ' id≠none ↔ id<hs.length)/\V w (E.up φ') (some φ') r v:=by
 unfold Y2 at ho
 split at ho
 ·rename_i x hx
  obtain⟨v,h1,h2⟩:=SQ hT h hx
  cases pub with
  | false =>
   obtain⟨φ',k1,k2,k3,k4⟩:=Uo h.hp h.lv h2 ho
   exact⟨v,φ',h1,k1,k2,k3,k4⟩
  | true =>
   simp only[cond_true]at ho
   split at ho
   ·rename_i y ids hp
    have h3:=H4 (ids:=ids) h.hp _ x y v ids h2 hp fun _ h=>h
    obtain⟨φ',k1,k2,k3,k4⟩:=Uo (st:={ st with H:=Dp ids st.H }) (h.hp.gone (ids:=ids)) (fun id hid e=>h.lv id hid (Cb.1 e)) (V.held (V.unhold h3)) ho
    exact⟨v,φ',h1,k1,(Fr.of_ext Cq).trans k2,k3,k4⟩
   ·cases ho
 ·cases ho
theorem V.over {E':A0}{w':World}{m:Option Phi}{x:VV}{v:Value}(h:V w (E'.up φ) m x v)(hs:w.heap.size<=w'.heap.size)(hA:∀ k,k<w.heap.size->¬ E'.fz k->w'.heap[k]?=w.heap[k]?/\¬ E.fz k)(hR:∀ k,k<w.heap.size->¬ E'.br k->w'.heap[k]?=w.heap[k]?/\¬ E.br k):V w' (E.up φ) m x v :=
 h.mono hs (fun k hk hn=>let ⟨h1,h2⟩:=hA k hk fun e=>hn (.inl e);⟨h1,fun e=>e.elim h2 fun h=>hn (.inr h)⟩) (fun k hk hn=>let ⟨h1,h2⟩:=hR k hk fun e=>hn (.inl e);⟨h1,fun e=>e.elim h2 fun h=>hn (.inr h)⟩) (by cases m with
  | none=>trivial
  | some φ=>exact G2.refl φ)
theorem HRel.over {E':A0}{w':World}{H:Nat->Ob}(h:HRel E' H φ w)(hb:∀ k,E.br k->E.fz k)(hs:w.heap.size<=w'.heap.size)(hA:∀ k,k<w.heap.size->¬ E'.fz k->w'.heap[k]?=w.heap[k]?/\¬ E.fz k)(hR:∀ k,k<w.heap.size->¬ E'.br k->w'.heap[k]?=w.heap[k]?/\¬ E.br k):HRel E H φ w':=by
 have own:∀ {id p k},φ id=some p->PlB p k->w'.heap[k]?=w.heap[k]?:=fun{id p k} e hp=>by
  have ho:Own φ k:=⟨id,A4.2 ⟨p,e,hp⟩⟩
  exact(hA k (h.lt ho) (h.free k ho)).1
 refine⟨hb,fun id p e=>?_,h.inj,fun k hk=>(hA k (h.lt hk) (h.free k hk)).2⟩
 have ho:=h.ob id p e
 generalize H id=o at ho ⊢
 have arr:∀ {fr:Bool} {g n sz:Nat} {f:Nat->List VV},ObV w E' φ (.arr fr g n sz f) p->ObV w' E φ (.arr fr g n sz f) p:=by
  intro fr g n sz f hp
  cases p with
  | box b=>exact hp.elim
  | arr g' n' hd =>
   obtain⟨rfl,rfl,hp⟩:=hp
   refine⟨rfl,rfl,?_⟩
   match hd,hp,e with
   | none,hp,_=>exact hp
   | some (b,cap),hp,e =>
    obtain⟨c,ty,a1,a2,a3,a4,a5,a6,a7⟩:=hp
    refine⟨c,ty,(own e ⟨cap,rfl⟩).trans a1,a2,a3,a4,a5,fun i j x hi hx=>?_,a7⟩
    have:=a6 i j x hi hx
    cases fr with
    | true=>exact V.mono (E:=(E'.up φ).hold) (E':=(E.up φ).hold) this hs (fun k hk hn=>let ⟨h1,h2⟩:=hA k hk fun e=>hn (.inl e);⟨h1,fun e=>e.elim h2 fun h=>hn (.inr h)⟩) (fun _ _ hn=>(hn trivial).elim) trivial
    | false=>exact V.over (E:=E) (E':=E') this hs hA hR
 cases o with
 | box cs =>
  cases p with
  | box b =>
   obtain⟨c,ty,a1,a2⟩:=ho
   exact⟨c,ty,(own e rfl).trans a1,a2.1,fun j x hx=>(a2.2 j x hx).over hs hA hR⟩
  | arr=>exact ho.elim
 | arr fr g n sz f=>exact arr ho
 | kar g n sz k r f=>exact Ea.2 ⟨arr (Ea.1 ho).1,arr (Ea.1 ho).2⟩
 | gone g =>
  cases p with
  | box b=>exact ho.elim
  | arr g' n' hd=>exact ho
theorem Rel.over {E':A0}{w':World}(h:Rel N E' st φ a w)(hb:∀ k,E.br k->E.fz k)(hs:w.heap.size<=w'.heap.size)(hA:∀ k,k<w.heap.size->¬ E'.fz k->w'.heap[k]?=w.heap[k]?/\¬ E.fz k)(hR:∀ k,k<w.heap.size->¬ E'.br k->w'.heap[k]?=w.heap[k]?/\¬ E.br k)
  (hz:∀ k,E.fz k->k<w'.heap.size) (hd:PM E E.ds w') (hl:∀ k,k∈Sc->w'.heap[k]?=w.heap[k]?):Rel N E st φ { a with defers:=E.ds } w' :=
 ⟨h.sz,⟨rfl,hd⟩,⟨hz,h.old.lib.at'.congr hl,fun k hk=>Nat.lt_of_lt_of_le (h.old.lib.lt k hk) hs,h.old.lib.out⟩,fun t=>(h.tm t).over hs hA hR,h.hp.over hb hs hA hR,h.fr,h.lv⟩
def HV : List Nat->World->World
 | [],w=>w
 | D::Ds,w=>HV Ds (w.putObj D (.deferred none))
theorem JB : ∀ {Ds:List Nat} {w:World},(HV Ds w).heap.size=w.heap.size
 | [],_=>rfl
 | D::Ds,w=>(JB (Ds:=Ds)).trans (by simp)
theorem Qq : ∀ {Ds:List Nat} {w:World},(HV Ds w).os=w.os/\(HV Ds w).tape=w.tape/\(HV Ds w).output=w.output
 | [],_=>⟨rfl,rfl,rfl⟩
 | D::Ds,w=>Qq (Ds:=Ds) (w:=w.putObj D (.deferred none))
theorem Gk {k:Nat}:∀ {Ds:List Nat} {w:World},k ∉ Ds->(HV Ds w).heap[k]?=w.heap[k]?
 | [],_,_=>rfl
 | D::Ds,w,h=>by
  simp only[List.mem_cons,not_or]at h
  exact(Gk (Ds:=Ds) h.2).trans (World.putObj_heap_other h.1)
theorem LM {fn:Func}{tmps:Array Value}{R:Ending->World->Prop}:∀ (Ds:List Nat) (w:World),Ds.Nodup->(∀ D,D∈Ds->w.heap[D]?=some (.deferred (some [])))->(∃ v,(results fn tmps).run P (HV Ds w)=.ok v (HV Ds w)/\R (.returned v) (HV Ds w))->LeavesInM Fence.wide 0 P fn tmps R (Ds.map AgS) .returning w
 | [],w,_,_,h=>h
 | D::Ds,w,hn,hm,h=>by
  rw[List.nodup_cons]at hn
  exact⟨by simp,.inl ⟨D,_,rfl,run_takeDeferred (hm D (List.mem_cons_self ..)),LM Ds _ hn.2 (fun D' hD'=>(World.putObj_heap_other fun e=>hn.1 (by rw[← e];exact hD')).trans (hm D' (List.mem_cons_of_mem _ hD'))) h⟩⟩
theorem Pu {f:FuncId}{fn:Func}{c:Code}{args:Array Value}{R:Ending->World->Prop}(hf:P.funcs[f]?=some fn)(hb:fn.body=some c)
  (h:c.wp P (fun e a w=>(e=.normal∨e=.ret)/\∃ Ds:List Nat,a.defers=Ds.map AgS/\Ds.Nodup/\(∀ D,D∈Ds->w.heap[D]?=some (.deferred (some []))) /\
   ∃ v,(results fn a.tmps).run P (HV Ds w)=.ok v (HV Ds w)/\R (.returned v) (HV Ds w)) { tmps:=args++Array.replicate (fn.ntmps - args.size) undef,defers:=[] } w):Calls P f args w R:=by
 refine(callsIn_wide (n:=0)).1 (callsIn_of_wp_marks hf hb trivial (wpIn_mono (wpIn_wide.2 h) ?_) rfl)
 rintro e a w ⟨he,Ds,hd,hn,hD,hv⟩
 have key:LeavesInM Fence.wide 0 P fn a.tmps R a.defers .returning w:=by rw[hd];exact LM Ds w hn hD hv
 rcases he with rfl | rfl<;>exact key
def Afh (P:Program)(T:TypeId->TE)(Sh:Shs)(L:Ann)(pub:Bool)(fn:Func)(hs:List Ob)(xs:List VV)(hs':List Ob)(r:VV):Prop :=
 xc P T Sh fn.ntmps L [] (X9 fn) (AiZ T pub L.base fn.results.toList hs' r) (St.init hs xs)
theorem Acy (hT:TOk P T)(hmx:P.follows .mixedOrders=true){f:FuncId}{fn:Func}{hs:List Ob}{xs:List VV}{hs':List Ob}{r:VV}(Sh:Shs)(L:Ann)(pub:Bool)(hf:P.funcs[f]?=some fn)
  (hfn:fnB fn xs.length=true) (hb:L.base=hs.length) (h:Afh P T Sh L pub fn hs xs hs' r):Al P f hs xs hs' r:=by
 unfold Afh X9 at h
 unfold fnB at hfn
 simp only[Bool.and_eq_true,Bool.not_eq_true']at hfn
 obtain⟨⟨⟨hb1,hB⟩,hn⟩,hx⟩:=hfn
 obtain⟨c,hbd⟩:=Option.isSome_iff_exists.1 hb1
 rw[hbd,Option.getD_some]at h hB
 refine⟨⟨fn,hf,by rw[hbd];rfl,hn⟩,fun w E φ vs hz hH hφ hs1=>?_⟩
 have hxl:=Nat.le_of_ble_eq_true hx
 obtain⟨E1,hE1,e1,e2,e3⟩:∃ E1:A0,E1.lo=w.heap.size/\E1.fz=E.fz/\E1.br=E.br/\E1.ds=[]:=⟨⟨E.fz,E.br,w.heap.size,[]⟩,rfl,rfl,rfl,rfl⟩
 have le1:∀ k,E.fz k->E1.fz k:=fun k h=>by rw[e1];exact h
 have le2:∀ k,E.br k->E1.br k:=fun k h=>by rw[e2];exact h
 have le3:∀ k,E1.fz k->E.fz k:=fun k h=>by rw[e1]at h;exact h
 have le4:∀ k,E1.br k->E.br k:=fun k h=>by rw[e2]at h;exact h
 have hrel:Rel fn.ntmps E1 (St.init hs xs) φ { tmps:=vs++Array.replicate (fn.ntmps - vs.size) undef,defers:=[] } w:=by
  refine⟨?_,⟨e3.symm,by rw[e3];exact .nil (Nat.le_of_eq hE1)⟩,⟨fun k hk=>hz.lt k (le3 k hk),hz.lib⟩,fun t=>?_,hH.over (fun k h=>le1 k (hH.sub k (le4 k h))) (Nat.le_refl _) (fun _ _ h=>⟨rfl,fun e=>h (le3 _ e)⟩) (fun _ _ h=>⟨rfl,fun e=>h (le4 _ e)⟩),fun id hid=>?_,fun id hid=>(hφ id).2 hid⟩
  ·simp[hs1.1];omega
  ·show V w _ _ (xs.getD t .dead) _
   cases hq:xs[t]? with
   | none=>rw[List.getD_eq_getElem?_getD,hq];exact .dead
   | some x =>
    have ht:t<vs.size:=by rw[hs1.1];exact(List.getElem?_eq_some_iff.1 hq).1
    rw[List.getD_eq_getElem?_getD,hq]
    have:=hs1.2 t x hq
    have e:(vs++Array.replicate (fn.ntmps - vs.size) undef).getD t undef=vs.getD t undef:=by
     simp[Array.getD_eq_getD_getElem?,Array.getElem?_append_left ht]
    rw[e]
    exact this.over (Nat.le_refl _) (fun _ _ h=>⟨rfl,fun e=>h (le3 _ e)⟩) fun _ _ h=>⟨rfl,fun e=>h (le4 _ e)⟩
  ·have hid':hs.length<=id:=hid
   exact Classical.byContradiction fun hn=>by have:=(hφ id).1 hn;omega
 refine Pu hf hbd (Go.wp_mono ((G3 hT hmx c hB _ _ _ h).h E1 φ _ w hrel) ?_)
 rintro e a' w' ⟨E',st',φ',h0,h1,h2,h3⟩
 have key:(match Y2 T pub L.base fn.results.toList st' with
  | some (hs'',r')=>leO hs'' hs'/\VV.le r' r
  | none=>False)->∃ Ds:List Nat,a'.defers=Ds.map AgS/\Ds.Nodup/\(∀ D,D∈Ds->w'.heap[D]?=some (.deferred (some []))) /\
   ∃ v,(results fn a'.tmps).run P (HV Ds w')=.ok v (HV Ds w')/\∃ v' φ'',Ending.returned v=.returned v'/\HRel E (CG hs') φ'' (HV Ds w')/\Fr hs.length w φ (HV Ds w') φ''/\(∀ id,φ'' id≠none ↔ id<hs'.length)/\V (HV Ds w') (E.up φ'') (some φ'') r v':=by
  intro hres
  obtain⟨hds,hlo,Ds,hd,hnd,hm⟩:=h2.df
  rw[← hds]at hd
  have hz':∀ k,E.fz k->k<w'.heap.size:=fun k hk=>h2.old.lt k (h0.fz k (le1 k hk))
  have hr2:Rel fn.ntmps { E with lo:=0,ds:=[] } st' φ' { a' with defers:=[] } (HV Ds w'):=by
   refine h2.over (fun k h=>hH.sub k h) (Nat.le_of_eq JB.symm) (fun k _ hn=>⟨Gk fun h=>hn (hm k h).2.1,fun h=>hn (h0.fz k (le1 k h))⟩) (fun k _ hn=>⟨Gk fun h=>hn (hm k h).2.2.1,fun h=>hn (h0.br k (le2 k h))⟩)
    (fun k hk=>by rw[JB];exact hz' k hk) (.nil (Nat.zero_le _)) fun k hk=>Gk fun h=>(hm k h).2.2.2.1 hk
  have hf2:Fr L.base w φ (HV Ds w') φ':=by
   obtain⟨s1,s2,s3⟩:=Qq (Ds:=Ds) (w:=w')
   refine⟨s1.trans h3.os,s2.trans h3.tape,s3.trans h3.output,by rw[JB];exact h3.size,fun k hk hn=>?_,h3.new,h3.kind⟩
   rw[Gk fun h=>?_]
   ·exact h3.block k hk hn
   ·have:=(hm k h).2.2.2.2
    rw[h0.lo,hE1]at this
    omega
  split at hres
  ·rename_i hs'' r' ho
   obtain⟨v,φ'',g1,g2,g3,g4,g5⟩:=AeL hT hr2 ho
   have hl:=(Ie hres.1).1
   refine⟨Ds,hd,hnd,fun D hD=>(hm D hD).1,v,g1,v,φ'',rfl,(g2.le hres.1).over hH.sub (Nat.le_refl _) (fun _ _ h=>⟨rfl,h⟩) (fun _ _ h=>⟨rfl,h⟩),?_,fun id=>by rw[← hl];exact g4 id,(hres.2 _ _ _ _ g5).over (Nat.le_refl _) (fun _ _ h=>⟨rfl,h⟩) (fun _ _ h=>⟨rfl,h⟩)⟩
   rw[← hb]
   exact hf2.trans g3
  ·exact hres.elim
 cases e with
 | normal=>exact⟨.inl rfl,key h1⟩
 | ret=>exact⟨.inr rfl,key h1⟩
 | _=>exact h1.elim
theorem Al.le {f:FuncId}{hs hs' hs1 hs2:List Ob}{xs xs1:List VV}{r r':VV}(h:Al P f hs xs hs' r)(h1:leO hs1 hs)(h2:leL xs1 xs)(h3:leO hs' hs2)(h4:VV.le r r'):Al P f hs1 xs1 hs2 r':=by
 refine⟨h.callable,fun w E φ vs hz hH hφ hs0=>?_⟩
 obtain⟨k1,k2⟩:=Ha h2
 have hl1:=(Ie h1).1
 have hl3:=(Ie h3).1
 refine(h.call w E φ vs hz (hH.le h1) (fun id=>by rw[← hl1];exact hφ id) ⟨hs0.1.trans k1,fun j y hy=>let ⟨x,hx,hle⟩:=k2 j y hy;hle _ _ _ _ (hs0.2 j x hx)⟩).mono ?_
 rintro e w' ⟨v,φ',e1,g1,g2,g3,g4⟩
 exact⟨v,φ',e1,g1.le h3,by rw[hl1];exact g2,fun id=>by rw[← hl3];exact g3 id,h4 _ _ _ _ g4⟩
end
end
section
structure Ctx where
 P:Program
 T:TypeId->TE
 Sh:Shs
 N:Nat
 L:Ann
 code:Code
 p0:List Nat
 K0:Exit->St->Prop
def Ctx.goal (c:Ctx)(st:St):Prop:=xc c.P c.T c.Sh c.N c.L c.p0 c.code c.K0 st
def Ctx.sub (c:Ctx)(rel:List Nat):Code:=E9 rel c.code
def Ctx.k (c:Ctx)(rel:List Nat):Exit->St->Prop:=Q3 c.P c.T c.Sh c.N c.L rel c.p0 c.code c.K0
def Ctx.at (c:Ctx)(rel:List Nat):List Nat:=rel.reverse++c.p0
def Aq (c:Ctx)(rel:List Nat)(st:St):Prop:=Sat c.P c.N c.L.base (c.at rel) (c.sub rel) (c.k rel) st
def Ctx.loop (c:Ctx)(rel:List Nat)(J:St->Prop):Ctx :=
 { c with code:=E9 (rel++[0]) c.code,p0:=0::c.at rel,K0:=AeZ c.L.base (c.L.keep (c.at rel)) J (c.k rel) }
def Ctx.first (c:Ctx)(rel:List Nat)(l:Nat)(J:St->Prop):Ctx :=
 { c with code:=E9 (rel++[0]) c.code,p0:=0::c.at rel,K0:=Q4 l c.L.base (c.L.keep (c.at rel)) J (c.k rel) }
def Ctx.pass (c:Ctx)(rel:List Nat)(l:Nat)(J:St->Prop):Ctx :=
 { c with code:=(findLabel (E9 (rel++[0]) c.code) l).getD .skip,p0:=1::c.at rel,K0:=Q4 l c.L.base (c.L.keep (c.at rel)) J (c.k rel) }
def Ctx.cut (c:Ctx)(rel:List Nat):Ctx:={ c with code:=E9 rel c.code,p0:=c.at rel,K0:=c.k rel }
def Df (P:Program)(T:TypeId->TE)(Sh:Shs)(L:Ann)(pub:Bool)(fn:Func)(hs':List Ob)(r:VV):Ctx :=
 ⟨P,T,Sh,fn.ntmps,L,X9 fn,[],AiZ T pub L.base fn.results.toList hs' r⟩
theorem Z2 {c:Ctx}(hT:TOk c.P c.T)(hmx:c.P.follows .mixedOrders=true){rel:List Nat}{st:St}(J:Nat->St->Prop)(hl:c.sub rel=.loop (E9 (rel++[0]) c.code))(hB:EH c.N (E9 (rel++[0]) c.code)=true)(hJ:∃ g,Up (J g) st)
  (round:∀ g st,J g st->(c.loop rel fun st'=>∃ g',g'<g/\Up (J g') st').goal st):Aq c rel st :=
 Adi (L:=c.L) (p:=c.at rel) (K:=c.k rel) hT hmx _ c.Sh (c.L.keep (c.at rel)) J hl hB hJ round
theorem VK {c:Ctx}(hT:TOk c.P c.T)(hmx:c.P.follows .mixedOrders=true){rel:List Nat}{st:St}(l:Nat)(J:Nat->St->Prop)(hl:c.sub rel=.scope (E9 (rel++[0]) c.code))(hf:(findLabel (E9 (rel++[0]) c.code) l).isSome=true)
  (hB:EH c.N (E9 (rel++[0]) c.code)=true) (hB':EH c.N ((findLabel (E9 (rel++[0]) c.code) l).getD .skip)=true)
  (first:(c.first rel l fun st'=>∃ g,Up (J g) st').goal st) (pass:∀ g st,J g st->(c.pass rel l fun st'=>∃ g',g'<g/\Up (J g') st').goal st):Aq c rel st:=by
 obtain⟨rest,hr⟩:=Option.isSome_iff_exists.1 hf
 have e:(findLabel (E9 (rel++[0]) c.code) l).getD .skip=rest:=by rw[hr];rfl
 refine Z0 (L:=c.L) (p:=c.at rel) (K:=c.k rel) hT hmx _ rest c.Sh (c.L.keep (c.at rel)) l J hl hr hB (by rw[← e];exact hB') first fun g st h=>?_
 rw[← e]
 exact pass g st h
theorem Aq.le {c:Ctx}{rel:List Nat}{l l':List (Nat × VV)}{hs hs':List Ob}(h1:leT l l')(h2:leO hs hs')(h:Aq c rel (Av l' hs')):Aq c rel (Av l hs):=Sat.le h1 h2 h
theorem Aq.own {c:Ctx}{rel:List Nat}{l:List (Nat × VV)}{hs:List Ob}(k t sz:Nat)(f:Nat->List VV)(hk:l[k]?=some (t,.nl))(h:Aq c rel (Av (l.set k (t,.ow hs.length 0 0)) (hs++[.arr true 0 0 sz f]))):Aq c rel (Av l hs):=Sat.own k t sz f hk h
structure AY (A:Prop):Prop where
 out:A
theorem AY.raw {A Q:Prop}(e:A=Q)(h:Q):AY A:=⟨e.mpr h⟩
theorem Ag {P:Program}{T:TypeId->TE}(hT:TOk P T)(hmx:P.follows .mixedOrders=true){f:FuncId}{fn:Func}{hs:List Ob}{xs:List VV}{hs':List Ob}{r:VV}{Sh:Shs}{L:Ann}{pub:Bool}{Q:Prop}(hf:P.funcs[f]?=some fn)
  (hfn:fnB fn xs.length=true) (hb:L.base=hs.length) (e:(Df P T Sh L pub fn hs' r).goal (St.init hs xs)=Q) (h:Q):Al P f hs xs hs' r :=
 Acy hT hmx Sh L pub hf hfn hb (e.mpr h)
theorem Dq {c:Ctx}(hT:TOk c.P c.T)(hmx:c.P.follows .mixedOrders=true){rel:List Nat}{st:St}{Q:Prop}(hB:EH c.N (E9 rel c.code)=true)(e:(c.cut rel).goal st=Q)(h:Q):Aq c rel st :=
 G3 (L:=c.L) hT hmx _ hB _ _ _ (e.mpr h)
theorem AA {c:Ctx}(hT:TOk c.P c.T)(hmx:c.P.follows .mixedOrders=true){rel:List Nat}{st:St}(J:Nat->St->Prop)(hl:c.sub rel=.loop (E9 (rel++[0]) c.code))(hB:EH c.N (E9 (rel++[0]) c.code)=true)(hJ:∃ g,Up (J g) st)
  (round:∀ g st,J g st->AY ((c.loop rel fun st'=>∃ g',g'<g/\Up (J g') st').goal st)):Aq c rel st :=
 Z2 hT hmx J hl hB hJ fun g st h=>(round g st h).out
theorem ZZ {c:Ctx}(hT:TOk c.P c.T)(hmx:c.P.follows .mixedOrders=true){rel:List Nat}{st:St}(l:Nat)(J:Nat->St->Prop)(hl:c.sub rel=.scope (E9 (rel++[0]) c.code))(hf:(findLabel (E9 (rel++[0]) c.code) l).isSome=true)
  (hB:EH c.N (E9 (rel++[0]) c.code)=true) (hB':EH c.N ((findLabel (E9 (rel++[0]) c.code) l).getD .skip)=true)
  (first:AY ((c.first rel l fun st'=>∃ g,Up (J g) st').goal st)) (pass:∀ g st,J g st->AY ((c.pass rel l fun st'=>∃ g',g'<g/\Up (J g') st').goal st)):Aq c rel st :=
 VK hT hmx l J hl hf hB hB' first.out fun g st h=>(pass g st h).out
end
section
section
variable {w : World} {E:A0} {m:Option Phi} {v:Value}
theorem V.unmap {φ:Phi}(hφ:∀ id,φ id=none){x:VV}(h:V w E (some φ) x v):V w E none x v:=by
 generalize hm:some φ=m0 at h
 induction h with
 | dead=>exact .dead
 | sc=>exact .sc
 | nl=>exact .nl
 | nil h=>exact .nil h
 | sl u h1 h2 h3 h4 h5 h6 h7 _=>exact .sl u h1 h2 h3 h4 h5 h6 h7
 | tp u h1 h2 h3 h4 _=>exact .tp u h1 h2 h3 h4
 | bp h=>obtain rfl:=Option.some.inj hm;rw[hφ]at h;cases h
 | ow h=>obtain rfl:=Option.some.inj hm;rw[hφ]at h;cases h
 | ep h=>obtain rfl:=Option.some.inj hm;rw[hφ]at h;cases h
 | agg h1 h2 ih=>exact .agg h1 fun j x hx=>ih j x hx hm
 | tup h1 h2 ih=>exact .tup h1 fun j x hx=>ih j x hx hm
 | fn h1 h2 ih=>exact .fn h1 fun j x hx=>ih j x hx hm
 | er h=>exact .er h
theorem DM.cons_inv {x:VV}{xs:List VV}{vs:Array Value}(h:DM w E m (x::xs) vs):∃ u us,vs=#[u]++us/\V w E m x u/\DM w E m xs us:=by
 obtain⟨l⟩:=vs
 match l,h with
 | [],h=>have:=h.1;simp at this
 | u::l,h =>
  refine⟨u,l.toArray,by simp,h.2 0 x rfl,by have:=h.1;simpa using this,fun j y hy=>?_⟩
  have:=h.2 (j+1) y hy
  simpa[Array.getD_eq_getD_getElem?] using this
theorem DM.nil_inv {vs:Array Value}(h:DM w E m [] vs):vs=#[]:=by
 have:=h.1;exact Array.eq_empty_of_size_eq_zero (by simpa using this)
end
theorem Al.hand {P:Program}{f:FuncId}{xs:List VV}{r:VV}(hc:PN P f)
  (h:∀ (w:World) (E:A0) (vs:Array Value),(∀ k,E.fz k->k<w.heap.size)->Nq w->(∀ k,k∈Sc->k<w.heap.size)->(∀ k,E.br k->E.fz k)->DM w E none xs vs->Calls P f vs w fun e w'=>∃ v,e=.returned v/\V w' E none r v/\Below w.heap.size w w'):Al P f [] xs [] r:=by
 refine⟨hc,fun w E φ vs hz hH hφ hs=>?_⟩
 have hnone:∀ id,φ id=none:=fun id=>Classical.byContradiction fun hn=>by have:=(hφ id).1 hn;simp at this
 refine(h w (E.up φ) vs ?_ hz.lib.at' hz.lib.lt ?_ ⟨hs.1,fun j x hx=>(hs.2 j x hx).unmap hnone⟩).mono ?_
 ·rintro k (hk | hk)
  ·exact hz.lt k hk
  ·exact hH.lt hk
 ·exact fun k hk=>hk.imp (hH.sub k) fun h=>h
 ·rintro e w' ⟨v,rfl,hV,hB⟩
  exact⟨v,φ,rfl,hH.below hB,Fr.of_ext (Ext.of_below hB),hφ,hV.held⟩
theorem Al.start {P:Program}{f:FuncId}{xs:List VV}{r:VV}(h:Al P f [] xs [] r){w:World}{vs:Array Value}(hL:Nq w)(hB:∀ k,k∈Sc->k<w.heap.size)(hs:DM w ⟨fun _=>False,fun _=>False,0,[]⟩ none xs vs) :
  Calls P f vs w fun e w'=>∃ v,e=.returned v/\Below w.heap.size w w'/\V w' ⟨fun _=>False,fun _=>False,0,[]⟩ none r v:=by
 have hno:∀ k,¬ Own (fun _=>none:Phi) k:=by
  rintro k ⟨id,hb⟩
  obtain⟨p,hp,_⟩:=A4.1 hb
  cases hp
 refine(h.call w ⟨fun _=>False,fun _=>False,0,[]⟩ (fun _=>none) vs ⟨fun _ h=>h.elim,hL,hB,fun k _ ho=>hno k ho⟩ ⟨fun _ h=>h,fun id p e=>(by cases e),fun i j k hb=>(hno k ⟨i,hb⟩).elim,fun k hk=>(hno k hk).elim⟩ (fun id=>by simp) ⟨hs.1,fun j x hx=>?_⟩).mono ?_
 ·exact((hs.2 j x hx).held).less (fun k hk=>hk.elim (fun h=>h) (hno k)) fun k hk=>hk.elim (fun h=>h) (hno k)
 ·rintro e w' ⟨v,φ',rfl,_,h2,h3,h4⟩
  have hnone:∀ id,φ' id=none:=fun id=>Classical.byContradiction fun hn=>by have:=(h3 id).1 hn;simp at this
  refine⟨v,rfl,⟨h2.os,h2.tape,h2.output,h2.size,fun k hk=>h2.block k hk (hno k)⟩,(h4.unmap hnone).less (fun _ h=>h.elim) fun _ h=>h.elim⟩
end
def Aa (n:Int):VV:=.sc (.int .i64 n)
def Ac (b:Bool):VV:=.sc (.bool b)
def AS (s:ByteArray):VV:=.sc (.string s)
structure Ev {α:Type} (p:Pkg α) (enc:α->List VV) (wf:α->Prop):Prop where
 ok:∀ {w:World} {E:A0} {m:Option Phi} {cs:List Value} {x:α},(∀ k,¬ E.fz k)->p.mu x<=1048576->Is p w cs x->cs.length=(enc x).length/\(∀ (j:Nat) (y:VV),(enc x)[j]?=some y->V w E m y (cs.getD j undef))/\wf x
namespace Ev
def wInt (k:IntKind)(n:Int):Prop:=(Lit.int k n).wf=true
theorem imp {α:Type}{p:Pkg α}{e e':α->List VV}{wf wf':α->Prop}(h:Ev p e wf)(he:∀ x,e x=e' x)(hw:∀ x,wf x->wf' x):Ev p e' wf':=⟨fun{w E m cs x} hE hm k=>by
 obtain⟨h1,h2,h3⟩:=h.ok (E:=E) (m:=m) hE hm k
 rw[← he x]
 exact⟨h1,h2,hw x h3⟩⟩
theorem int (k:IntKind):Ev (Pkg.int k) (fun n=>[.sc (.int k n)]) (wInt k):=⟨fun{w E m cs x} _ _ h=>by
 obtain⟨rfl,hw⟩:=Aik.1 h
 refine⟨rfl,fun j y hy=>?_,hw⟩
 match j,hy with
 | 0,hy=>simp only[List.getElem?_cons_zero,Option.some.injEq]at hy;subst hy;exact .sc
 | j+1,hy=>simp at hy⟩
theorem bool : Ev Pkg.bool (fun b=>[.sc (.bool b)]) (fun _=>True):=⟨fun{w E m cs x} _ _ h=>by
 obtain rfl:=AgZ.1 h
 refine⟨rfl,fun j y hy=>?_,trivial⟩
 match j,hy with
 | 0,hy=>simp only[List.getElem?_cons_zero,Option.some.injEq]at hy;subst hy;exact .sc
 | j+1,hy=>simp at hy⟩
theorem str : Ev Pkg.str (fun b=>[.sc (.string b)]) (fun b=>b.size<=1048576):=⟨fun{w E m cs x} _ hm h=>by
 obtain⟨rfl,hs⟩:=Aij.1 h
 have hm':x.size+1<=1048576:=hm
 refine⟨rfl,fun j y hy=>?_,by omega⟩
 match j,hy with
 | 0,hy=>simp only[List.getElem?_cons_zero,Option.some.injEq]at hy;subst hy;exact .sc
 | j+1,hy=>simp at hy⟩
theorem unit : Ev Pkg.unit (fun _=>[]) (fun _=>True):=⟨fun{w E m cs x} _ _ h=>by
 obtain rfl:=AgX.1 h
 exact⟨rfl,fun j y hy=>by simp at hy,trivial⟩⟩
theorem cons {α β:Type}{p:Pkg α}{q:Pkg β}{e1:α->List VV}{e2:β->List VV}{w1:α->Prop}{w2:β->Prop}{n:Nat}(h1:Ev p e1 w1)(h2:Ev q e2 w2):Ev (Pkg.cons n p q) (fun y=>e1 y.1++e2 y.2) (fun y=>w1 y.1/\w2 y.2):=⟨fun{w E m cs x} hE hm h=>by
 obtain⟨a,b,rfl,ha,k1,k2⟩:=AgY.1 h
 have hm':p.mu x.1+q.mu x.2<=1048576:=hm
 obtain⟨l1,v1,f1⟩:=h1.ok (E:=E) (m:=m) hE (by omega) k1
 obtain⟨l2,v2,f2⟩:=h2.ok (E:=E) (m:=m) hE (by omega) k2
 refine⟨by simp[l1,l2],fun j y hy=>?_,f1,f2⟩
 by_cases hj:j<(e1 x.1).length
 ·rw[List.getElem?_append_left hj]at hy
  have:=v1 j y hy
  rw[List.getD_eq_getElem?_getD,List.getElem?_append_left (by omega),← List.getD_eq_getElem?_getD]
  exact this
 ·rw[List.getElem?_append_right (by omega)]at hy
  have:=v2 _ y hy
  rw[List.getD_eq_getElem?_getD,List.getElem?_append_right (by omega),l1,← List.getD_eq_getElem?_getD]
  exact this⟩
theorem via {α β:Type}{p:Pkg α}{e:α->List VV}{wf:α->Prop}(f:β->α)(h:Ev p e wf):Ev (Pkg.via f p) (fun y=>e (f y)) (fun y=>wf (f y)):=⟨fun{w E m cs x} hE hm k=>h.ok hE (by have hm':p.mu (f x)+1<=1048576:=hm;omega) (Aii.1 k)⟩
theorem mem_sum {α:Type}{μ:α->Nat}:∀ {l:List α} {y:α},y∈l->μ y<=Rd.sum μ l
 | x::l,y,h=>by
  rcases List.mem_cons.1 h with rfl | h
  ·simp only[Rd.sum];omega
  ·have:=mem_sum (μ:=μ) h;simp only[Rd.sum];omega
 | [],_,h=>by cases h
theorem len_sum {α:Type}{μ:α->Nat}(h1:∀ x,1<=μ x):∀ (l:List α),l.length<=Rd.sum μ l
 | []=>by simp
 | x::l=>by have:=len_sum h1 l;have:=h1 x;simp only[Rd.sum,List.length_cons];omega
theorem one_sum {α:Type}{μ:α->Nat}:∀ (l:List α),1<=Rd.sum μ l
 | []=>by simp[Rd.sum]
 | x::l=>by have:=one_sum (μ:=μ) l;simp only[Rd.sum];omega
theorem slice {α:Type}{p:Pkg α}{e:α->List VV}{wf:α->Prop}{size bytes:Nat}(d:α)(h:Ev p e wf)(hl:∀ x,(e x).length=size)(hp:∀ x,1<=p.mu x):Ev (Pkg.slice size bytes p) (fun l=>[.sl true l.length size fun i=>e (l.getD i d)]) (fun l=>l.length<=1048576/\∀ y∈l,wf y):=⟨fun{w E m cs x} hE hmu k=>by
 have hmu':Rd.sum p.mu x<=1048576:=hmu
 have hmem:∀ y∈x,p.mu y<=1048576:=fun y hy=>Nat.le_trans (mem_sum hy) hmu'
 obtain⟨v,rfl⟩:∃ v,cs=[v]:=by
  obtain⟨ao,cap,e',_⟩:=k
  exact⟨_,e'⟩
 obtain⟨ao,cap,rfl,k1,k2,k3⟩:=Ae9 k
 refine⟨rfl,fun j y hy=>?_,Nat.le_trans (len_sum hp x) hmu',fun y hy=>?_⟩
 ·match j,hy with
  | 0,hy =>
   simp only[List.getElem?_cons_zero,Option.some.injEq]at hy
   subst hy
   refine V.sl_mk k1 k2 fun hp=>?_
   obtain⟨b,off,rfl,hb,hel⟩:=k3 hp
   have hat:∀ i,i<x.length->∃ es:List Value,es.length=size/\(∀ k,k<size->w.cell? ⟨b,off+i*size+k,none⟩=es[k]?)/\Is p w es (x.getD i d):=fun i hi=>hel i (x.getD i d) (by simp[List.getD,hi])
   refine⟨b,off,rfl,hb,hE b,fun i _=>hl _,fun i j=>(w.cell? ⟨b,off+i*size+j,none⟩).getD undef,fun i j y hi hy=>?_,fun i j y hi hy=>?_⟩
   ·obtain⟨es,h4,h5,h6⟩:=hat i hi
    have hj:j<size:=by rw[← hl (x.getD i d)];exact(List.getElem?_eq_some_iff.1 hy).1
    show w.cell? ⟨b,off+i*size+j,none⟩=some ((w.cell? ⟨b,off+i*size+j,none⟩).getD undef)
    have h7:w.cell? ⟨b,off+i*size+j,none⟩=some (es[j]'(by omega)):=by rw[h5 j hj,List.getElem?_eq_getElem (by omega)]
    rw[h7];rfl
   ·obtain⟨es,h4,h5,h6⟩:=hat i hi
    have hj:j<size:=by rw[← hl (x.getD i d)];exact(List.getElem?_eq_some_iff.1 hy).1
    have hi':x.getD i d∈x:=by simp[List.getD,hi]
    have:=(h.ok (E:=E.at true) (m:=none) (fun k=>hE k) (hmem _ hi') h6).2.1 j y hy
    rw[List.getD_eq_getElem?_getD,← h5 j hj]at this
    exact this
  | j+1,hy=>simp at hy
 ·have hm:=hmem y hy
  obtain⟨i,hi,rfl⟩:=List.mem_iff_getElem.1 hy
  obtain⟨b,off,e',hb,hel⟩:=k3 (by omega)
  obtain⟨es,_,_,hx⟩:=hel i x[i] (List.getElem?_eq_getElem hi)
  exact(h.ok (E:=E) (m:=m) hE hm hx).2.2⟩
theorem agg {α:Type}{p:Pkg α}{e:α->List VV}{wf:α->Prop}(h:Ev p e wf){w:World}{E:A0}{m:Option Phi}{cs:Array Value}{x:α}(hE:∀ k,¬ E.fz k)(hm:p.mu x<=1048576)(k:Is p w cs.toList x):V w E m (.agg (e x)) (.agg cs)/\wf x:=by
 obtain⟨h1,h2,h3⟩:=h.ok (E:=E) (m:=m) hE hm k
 refine⟨.agg (by simpa using h1) fun j y hy=>?_,h3⟩
 have:=h2 j y hy
 simpa[Array.getD_eq_getD_getElem?,List.getD_eq_getElem?_getD] using this
theorem one {α:Type}{p:Pkg α}{e:α->VV}{wf:α->Prop}(h:Ev p (fun x=>[e x]) wf){w:World}{E:A0}{m:Option Phi}{v:Value}{x:α}(hE:∀ k,¬ E.fz k)(hm:p.mu x<=1048576)(k:Is p w [v] x):V w E m (e x) v/\wf x:=by
 obtain⟨h1,h2,h3⟩:=h.ok (E:=E) (m:=m) hE hm k
 exact⟨h2 0 (e x) rfl,h3⟩
end Ev
instance : Inhabited D.Type:=⟨⟨0,false⟩⟩
def Bs (x:D.Type):List VV:=[Aa x.Bits,Ac x.Signed]
structure Yj (x:D.Type):Prop where
 Bits:Ev.wInt .i64 x.Bits
 Signed:True
theorem Ag3 : Ev Mk Bs Yj:=(Ev.via (fun x:D.Type=>(x.Bits,x.Signed,())) (Ev.cons (Ev.int .i64) (Ev.cons Ev.bool Ev.unit))).imp (fun _=>rfl) fun _ ⟨h0,h1,_⟩=>⟨h0,h1⟩
def Az (fz:Bool)(l:List D.Type):VV:=.sl fz l.length 2 fun i=>Bs (l.getD i default)
def K1 (l:List D.Type):Prop:=l.length<=1048576/\∀ y∈l,Yj y
theorem Pk : Ev (Pkg.slice 2 16 Mk) (fun l=>[Az true l]) K1:=Ev.slice default Ag3 (fun _=>rfl) (fun _=>Nat.succ_le_succ (Nat.zero_le _))
instance : Inhabited D.Shape:=⟨⟨0,[]⟩⟩
def BZ (x:D.Shape):List VV:=[Aa x.Room,Az true x.Fields]
structure KZ (x:D.Shape):Prop where
 Room:Ev.wInt .i64 x.Room
 Fields:K1 x.Fields
theorem Afs : Ev NY BZ KZ:=(Ev.via (fun x:D.Shape=>(x.Room,x.Fields,())) (Ev.cons (Ev.int .i64) (Ev.cons Pk Ev.unit))).imp (fun _=>rfl) fun _ ⟨h0,h1,_⟩=>⟨h0,h1⟩
def Ad (fz:Bool)(l:List Int):VV:=.sl fz l.length 1 fun i=>[Aa (l.getD i 0)]
def EM (l:List Int):Prop:=l.length<=1048576/\∀ y∈l,Ev.wInt .i64 y
theorem Fz : Ev (Pkg.slice 1 8 (Pkg.int .i64)) (fun l=>[Ad true l]) EM:=Ev.slice 0 (Ev.int .i64) (fun _=>rfl) (fun _=>Nat.le_refl _)
instance : Inhabited D.Stmt:=⟨⟨0,0,0,0,[],[],⟨#[]⟩⟩⟩
def Ar (x:D.Stmt):List VV:=[Aa x.Kind,Aa x.A,Aa x.B,Aa x.N,Ad true x.Args,Ad true x.Match,AS x.Text]
structure Nz (x:D.Stmt):Prop where
 Kind:Ev.wInt .i64 x.Kind
 A:Ev.wInt .i64 x.A
 B:Ev.wInt .i64 x.B
 N:Ev.wInt .i64 x.N
 Args:EM x.Args
 Match:EM x.Match
 Text:(x.Text).size<=1048576
theorem Ag4 : Ev Xq Ar Nz:=(Ev.via (fun x:D.Stmt=>(x.Kind,x.A,x.B,x.N,x.Args,x.Match,x.Text,())) (Ev.cons (Ev.int .i64) (Ev.cons (Ev.int .i64) (Ev.cons (Ev.int .i64) (Ev.cons (Ev.int .i64) (Ev.cons Fz (Ev.cons Fz (Ev.cons Ev.str Ev.unit)))))))).imp (fun _=>rfl) fun _ ⟨h0,h1,h2,h3,h4,h5,h6,_⟩=>⟨h0,h1,h2,h3,h4,h5,h6⟩
instance : Inhabited D.Trans:=⟨⟨default,0,0⟩⟩
def Gb (x:D.Trans):List VV:=[Aa x.S.Kind,Aa x.S.A,Aa x.S.B,Aa x.S.N,Ad true x.S.Args,Ad true x.S.Match,AS x.S.Text,Aa x.To,Aa x.Line]
structure KY (x:D.Trans):Prop where
 S:Nz x.S
 To:Ev.wInt .i64 x.To
 Line:Ev.wInt .i64 x.Line
theorem Afq : Ev JI Gb KY:=(Ev.via (fun x:D.Trans=>(x.S,x.To,x.Line,())) (Ev.cons Ag4 (Ev.cons (Ev.int .i64) (Ev.cons (Ev.int .i64) Ev.unit)))).imp (fun _=>rfl) fun _ ⟨h0,h1,h2,_⟩=>⟨h0,h1,h2⟩
def As (fz:Bool)(l:List D.Trans):VV:=.sl fz l.length 9 fun i=>Gb (l.getD i default)
def Jp (l:List D.Trans):Prop:=l.length<=1048576/\∀ y∈l,KY y
theorem Rj : Ev (Pkg.slice 9 112 JI) (fun l=>[As true l]) Jp:=Ev.slice default Afq (fun _=>rfl) (fun _=>Nat.succ_le_succ (Nat.zero_le _))
def AW (fz:Bool)(l:List (List D.Trans)):VV:=.sl fz l.length 1 fun i=>[As true (l.getD i [])]
def N7 (l:List (List D.Trans)):Prop:=l.length<=1048576/\∀ y∈l,Jp y
theorem XV : Ev (Pkg.slice 1 24 (Pkg.slice 9 112 JI)) (fun l=>[AW true l]) N7:=Ev.slice [] Rj (fun _=>rfl) (fun _=>Ev.one_sum _)
instance : Inhabited D.Loc:=⟨⟨[],[],false,false,false,false,false⟩⟩
def Bf (x:D.Loc):List VV:=[As true x.Out,AW true x.Esc,Ac x.Atomic,Ac x.Dstep,Ac x.End,Ac x.Accept,Ac x.Progress]
structure Kd (x:D.Loc):Prop where
 Out:Jp x.Out
 Esc:N7 x.Esc
 Atomic:True
 Dstep:True
 End:True
 Accept:True
 Progress:True
theorem Aio : Ev Y0 Bf Kd:=(Ev.via (fun x:D.Loc=>(x.Out,x.Esc,x.Atomic,x.Dstep,x.End,x.Accept,x.Progress,())) (Ev.cons Rj (Ev.cons XV (Ev.cons Ev.bool (Ev.cons Ev.bool (Ev.cons Ev.bool (Ev.cons Ev.bool (Ev.cons Ev.bool Ev.unit)))))))).imp (fun _=>rfl) fun _ ⟨h0,h1,h2,h3,h4,h5,h6,_⟩=>⟨h0,h1,h2,h3,h4,h5,h6⟩
def Cm (fz:Bool)(l:List D.Loc):VV:=.sl fz l.length 7 fun i=>Bf (l.getD i default)
def Yl (l:List D.Loc):Prop:=l.length<=1048576/\∀ y∈l,Kd y
theorem Ag8 : Ev (Pkg.slice 7 56 Y0) (fun l=>[Cm true l]) Yl:=Ev.slice default Aio (fun _=>rfl) (fun _=>Nat.succ_le_succ (Nat.zero_le _))
instance : Inhabited D.Proc:=⟨⟨⟨#[]⟩,0,[],[],[],0,0,0,0,0⟩⟩
def AO (x:D.Proc):List VV:=[AS x.Name,Aa x.Params,Az true x.Frame,Ad true x.Init,Cm true x.Locs,Aa x.Start,Aa x.Final,Aa x.Active,Aa x.Prio,Aa x.Provided]
structure Fw (x:D.Proc):Prop where
 Name:(x.Name).size<=1048576
 Params:Ev.wInt .i64 x.Params
 Frame:K1 x.Frame
 Init:EM x.Init
 Locs:Yl x.Locs
 Start:Ev.wInt .i64 x.Start
 Final:Ev.wInt .i64 x.Final
 Active:Ev.wInt .i64 x.Active
 Prio:Ev.wInt .i64 x.Prio
 Provided:Ev.wInt .i64 x.Provided
theorem Ag5 : Ev R3 AO Fw:=(Ev.via (fun x:D.Proc=>(x.Name,x.Params,x.Frame,x.Init,x.Locs,x.Start,x.Final,x.Active,x.Prio,x.Provided,())) (Ev.cons Ev.str (Ev.cons (Ev.int .i64) (Ev.cons Pk (Ev.cons Fz (Ev.cons Ag8 (Ev.cons (Ev.int .i64) (Ev.cons (Ev.int .i64) (Ev.cons (Ev.int .i64) (Ev.cons (Ev.int .i64) (Ev.cons (Ev.int .i64) Ev.unit))))))))))).imp (fun _=>rfl) fun _ ⟨h0,h1,h2,h3,h4,h5,h6,h7,h8,h9,_⟩=>⟨h0,h1,h2,h3,h4,h5,h6,h7,h8,h9⟩
instance : Inhabited D.Dim:=⟨⟨0,0,0⟩⟩
def JO (x:D.Dim):List VV:=[Aa x.I,Aa x.Len,Aa x.Stride]
structure Acs (x:D.Dim):Prop where
 I:Ev.wInt .i64 x.I
 Len:Ev.wInt .i64 x.Len
 Stride:Ev.wInt .i64 x.Stride
theorem Aip : Ev Y1 JO Acs:=(Ev.via (fun x:D.Dim=>(x.I,x.Len,x.Stride,())) (Ev.cons (Ev.int .i64) (Ev.cons (Ev.int .i64) (Ev.cons (Ev.int .i64) Ev.unit)))).imp (fun _=>rfl) fun _ ⟨h0,h1,h2,_⟩=>⟨h0,h1,h2⟩
def BK (fz:Bool)(l:List D.Dim):VV:=.sl fz l.length 3 fun i=>JO (l.getD i default)
def Ym (l:List D.Dim):Prop:=l.length<=1048576/\∀ y∈l,Acs y
theorem Ag9 : Ev (Pkg.slice 3 24 Y1) (fun l=>[BK true l]) Ym:=Ev.slice default Aip (fun _=>rfl) (fun _=>Nat.succ_le_succ (Nat.zero_le _))
instance : Inhabited D.Var:=⟨⟨0,0,0,0,[]⟩⟩
def BN (x:D.Var):List VV:=[Aa x.Scope,Aa x.Slot,Aa x.Who,Aa x.Type_,BK true x.Dims]
structure Kc (x:D.Var):Prop where
 Scope:Ev.wInt .i64 x.Scope
 Slot:Ev.wInt .i64 x.Slot
 Who:Ev.wInt .i64 x.Who
 Type_:Ev.wInt .i64 x.Type_
 Dims:Ym x.Dims
theorem Ain : Ev AeJ BN Kc:=(Ev.via (fun x:D.Var=>(x.Scope,x.Slot,x.Who,x.Type_,x.Dims,())) (Ev.cons (Ev.int .i64) (Ev.cons (Ev.int .i64) (Ev.cons (Ev.int .i64) (Ev.cons (Ev.int .i64) (Ev.cons Ag9 Ev.unit)))))).imp (fun _=>rfl) fun _ ⟨h0,h1,h2,h3,h4,_⟩=>⟨h0,h1,h2,h3,h4⟩
instance : Inhabited D.Expr:=⟨⟨0,0,0,0,0,default,[],[]⟩⟩
def AE (x:D.Expr):List VV:=[Aa x.Op,Aa x.N,Aa x.A,Aa x.B,Aa x.C,Aa x.V.Scope,Aa x.V.Slot,Aa x.V.Who,Aa x.V.Type_,BK true x.V.Dims,Ad true x.Args,Ad true x.Match]
structure GS (x:D.Expr):Prop where
 Op:Ev.wInt .i64 x.Op
 N:Ev.wInt .i64 x.N
 A:Ev.wInt .i64 x.A
 B:Ev.wInt .i64 x.B
 C:Ev.wInt .i64 x.C
 V:Kc x.V
 Args:EM x.Args
 Match:EM x.Match
theorem Ag6 : Ev R4 AE GS:=(Ev.via (fun x:D.Expr=>(x.Op,x.N,x.A,x.B,x.C,x.V,x.Args,x.Match,())) (Ev.cons (Ev.int .i64) (Ev.cons (Ev.int .i64) (Ev.cons (Ev.int .i64) (Ev.cons (Ev.int .i64) (Ev.cons (Ev.int .i64) (Ev.cons Ain (Ev.cons Fz (Ev.cons Fz Ev.unit))))))))).imp (fun _=>rfl) fun _ ⟨h0,h1,h2,h3,h4,h5,h6,h7,_⟩=>⟨h0,h1,h2,h3,h4,h5,h6,h7⟩
def AX (fz:Bool)(l:List D.Shape):VV:=.sl fz l.length 2 fun i=>BZ (l.getD i default)
def P5 (l:List D.Shape):Prop:=l.length<=1048576/\∀ y∈l,KZ y
theorem Ab0 : Ev (Pkg.slice 2 32 NY) (fun l=>[AX true l]) P5:=Ev.slice default Afs (fun _=>rfl) (fun _=>Nat.succ_le_succ (Nat.zero_le _))
def AM (fz:Bool)(l:List D.Proc):VV:=.sl fz l.length 10 fun i=>AO (l.getD i default)
def SE (l:List D.Proc):Prop:=l.length<=1048576/\∀ y∈l,Fw y
theorem Afu : Ev (Pkg.slice 10 136 R3) (fun l=>[AM true l]) SE:=Ev.slice default Ag5 (fun _=>rfl) (fun _=>Nat.succ_le_succ (Nat.zero_le _))
def A7 (fz:Bool)(l:List D.Expr):VV:=.sl fz l.length 12 fun i=>AE (l.getD i default)
def SG (l:List D.Expr):Prop:=l.length<=1048576/\∀ y∈l,GS y
theorem Afw : Ev (Pkg.slice 12 144 R4) (fun l=>[A7 true l]) SG:=Ev.slice default Ag6 (fun _=>rfl) (fun _=>Nat.succ_le_succ (Nat.zero_le _))
instance : Inhabited D.Model:=⟨⟨[],[],[],[],[],0,[]⟩⟩
def Af (x:D.Model):List VV:=[Az true x.Globals,Ad true x.Init,AX true x.Shapes,Ad true x.Chans,AM true x.Procs,Aa x.Claim,A7 true x.Exprs]
structure A2 (x:D.Model):Prop where
 Globals:K1 x.Globals
 Init:EM x.Init
 Shapes:P5 x.Shapes
 Chans:EM x.Chans
 Procs:SE x.Procs
 Claim:Ev.wInt .i64 x.Claim
 Exprs:SG x.Exprs
theorem Aft : Ev NZ Af A2:=(Ev.via (fun x:D.Model=>(x.Globals,x.Init,x.Shapes,x.Chans,x.Procs,x.Claim,x.Exprs,())) (Ev.cons Pk (Ev.cons Fz (Ev.cons Ab0 (Ev.cons Fz (Ev.cons Afu (Ev.cons (Ev.int .i64) (Ev.cons Afw Ev.unit)))))))).imp (fun _=>rfl) fun _ ⟨h0,h1,h2,h3,h4,h5,h6,_⟩=>⟨h0,h1,h2,h3,h4,h5,h6⟩
def Gc (fz:Bool)(l:List (List Int)):VV:=.sl fz l.length 1 fun i=>[Ad true (l.getD i [])]
def SF (l:List (List Int)):Prop:=l.length<=1048576/\∀ y∈l,EM y
theorem Afv : Ev (Pkg.slice 1 24 (Pkg.slice 1 8 (Pkg.int .i64))) (fun l=>[Gc true l]) SF:=Ev.slice [] Fz (fun _=>rfl) (fun _=>Ev.one_sum _)
instance : Inhabited D.Chan:=⟨⟨0,[]⟩⟩
def Aw (x:D.Chan):List VV:=[Aa x.Shape,Gc true x.Queue]
structure Yk (x:D.Chan):Prop where
 Shape:Ev.wInt .i64 x.Shape
 Queue:SF x.Queue
theorem Ag7 : Ev R5 Aw Yk:=(Ev.via (fun x:D.Chan=>(x.Shape,x.Queue,())) (Ev.cons (Ev.int .i64) (Ev.cons Afv Ev.unit))).imp (fun _=>rfl) fun _ ⟨h0,h1,_⟩=>⟨h0,h1⟩
instance : Inhabited D.Process:=⟨⟨0,0,0,[]⟩⟩
def AB (x:D.Process):List VV:=[Aa x.Type_,Aa x.Loc,Aa x.Prio,Ad true x.Frame]
structure N6 (x:D.Process):Prop where
 Type_:Ev.wInt .i64 x.Type_
 Loc:Ev.wInt .i64 x.Loc
 Prio:Ev.wInt .i64 x.Prio
 Frame:EM x.Frame
theorem XU : Ev JJ AB N6:=(Ev.via (fun x:D.Process=>(x.Type_,x.Loc,x.Prio,x.Frame,())) (Ev.cons (Ev.int .i64) (Ev.cons (Ev.int .i64) (Ev.cons (Ev.int .i64) (Ev.cons Fz Ev.unit))))).imp (fun _=>rfl) fun _ ⟨h0,h1,h2,h3,_⟩=>⟨h0,h1,h2,h3⟩
def AV (fz:Bool)(l:List D.Chan):VV:=.sl fz l.length 2 fun i=>Aw (l.getD i default)
def SH (l:List D.Chan):Prop:=l.length<=1048576/\∀ y∈l,Yk y
theorem Afx : Ev (Pkg.slice 2 32 R5) (fun l=>[AV true l]) SH:=Ev.slice default Ag7 (fun _=>rfl) (fun _=>Nat.succ_le_succ (Nat.zero_le _))
def Ay (fz:Bool)(l:List D.Process):VV:=.sl fz l.length 4 fun i=>AB (l.getD i default)
def MW (l:List D.Process):Prop:=l.length<=1048576/\∀ y∈l,N6 y
theorem US : Ev (Pkg.slice 4 48 JJ) (fun l=>[Ay true l]) MW:=Ev.slice default XU (fun _=>rfl) (fun _=>Nat.succ_le_succ (Nat.zero_le _))
instance : Inhabited D.State:=⟨⟨[],[],[],0,0,0⟩⟩
def Ae (x:D.State):List VV:=[Ad true x.Globals,AV true x.Chans,Ay true x.Procs,Aa x.Last,Aa x.Alone,Aa x.Claim]
structure SD (x:D.State):Prop where
 Globals:EM x.Globals
 Chans:SH x.Chans
 Procs:MW x.Procs
 Last:Ev.wInt .i64 x.Last
 Alone:Ev.wInt .i64 x.Alone
 Claim:Ev.wInt .i64 x.Claim
theorem Afr : Ev NX Ae SD:=(Ev.via (fun x:D.State=>(x.Globals,x.Chans,x.Procs,x.Last,x.Alone,x.Claim,())) (Ev.cons Fz (Ev.cons Afx (Ev.cons US (Ev.cons (Ev.int .i64) (Ev.cons (Ev.int .i64) (Ev.cons (Ev.int .i64) Ev.unit))))))).imp (fun _=>rfl) fun _ ⟨h0,h1,h2,h3,h4,h5,_⟩=>⟨h0,h1,h2,h3,h4,h5⟩
def AR (fz:Bool)(l:List Bool):VV:=.sl fz l.length 1 fun i=>[Ac (l.getD i false)]
instance : Inhabited D.Env:=⟨⟨default,default,0,false,[]⟩⟩
def Ah (x:D.Env):List VV:=[Az true x.M.Globals,Ad true x.M.Init,AX true x.M.Shapes,Ad true x.M.Chans,AM true x.M.Procs,Aa x.M.Claim,A7 true x.M.Exprs,Ad true x.S.Globals,AV true x.S.Chans,Ay true x.S.Procs,Aa x.S.Last,Aa x.S.Alone,Aa x.S.Claim,Aa x.Pid,Ac x.Timeout,AR true x.Able]
def Cd (n:Nat)(f:Nat->Bool):Bool:=(List.range n).all f
def HB (n:Nat)(f:Nat->Bool):Int :=
 match(List.range n).find? fun i=>!f i with
 | some i=>(i:Int)
 | none=>-1
theorem AK {n:Nat}{f:Nat->Bool}:Cd n f=true ↔ ∀ i,i<n->f i=true:=by simp[Cd]
theorem BE {n k:Nat}{f:Nat->Bool}(hk:k<n)(h:f k=false):Cd n f=false:=by grind [AK]
theorem Db {n:Nat}{f:Nat->Bool}(h:∀ i,i<n->f i=true):HB n f=-1:=by
 unfold HB
 grind
theorem DQ {n k:Nat}{f:Nat->Bool}(h:∀ i,i<k->f i=true)(hk:k<n)(hf:f k=false):HB n f=k:=by
 unfold HB
 grind [List.find?_range_eq_some,List.find?_eq_none]
theorem Px {n:Nat}{f:Nat->Bool}:(HB n f=-1/\∀ i,i<n->f i=true)∨(∃ k,k<n/\HB n f=(k:Int)/\f k=false):=by
 unfold HB
 grind
def Eb (t:D.Type):Bool:=decide (1<=t.Bits)&&(decide (t.Bits<=32)&&(!t.Signed||(decide (t.Bits=16)||decide (t.Bits=32))))
def Cx (t:D.Type)(v:Int):Bool :=
 Eb t&&bif t.Signed then decide (-(2 ^ (t.Bits - 1).toNat)<=v)&&decide (v<2 ^ (t.Bits - 1).toNat) else decide (0<=v)&&decide (v<2 ^ t.Bits.toNat)
def GF (d:D.Dim):Bool:=decide (d.Len<1)||(decide (1073741824<d.Len - 1)||(decide (d.Stride<0)||decide (1073741824<d.Stride)))
def Dt : Int->List D.Dim->Int
 | n,[]=>n
 | n,d::l=>bif GF d then 0 else Dt (n+(d.Len - 1)*d.Stride) l
def CM (v:D.Var):Int:=bif decide (v.Slot<0)||(decide (1073741824<v.Slot)||decide (4<v.Dims.length)) then 0 else Dt (v.Slot+1) v.Dims
def Ex (t:List D.Type)(init:List Int):Int:=HB t.length fun i=>Cx (t.getD i default) (init.getD i 0)
def CF (s:D.Shape):Bool:=decide (0<=s.Room)&&decide (s.Room<=16)&&decide (1<=s.Fields.length)&&decide (s.Fields.length<=8)&&Cd s.Fields.length fun i=>Eb (s.Fields.getD i default)
def Cu (m:D.Model)(n:Int):Bool:=decide (0<=n)&&decide (n<m.Procs.length)&&decide (n≠m.Claim)
def inP (at' x:Int):Bool:=decide (0<=x)&&decide (x<at')
def Cc (at':Int)(l:List Int):Bool:=Cd l.length fun i=>inP at' (l.getD i 0)
def LX (at':Int)(d:D.Dim):Bool:=inP at' d.I&&decide (1<=d.Len)&&decide (d.Len<=128)&&decide (0<=d.Stride)&&decide (d.Stride<=128)
def CT (m:D.Model)(at':Int)(v:D.Var):Bool :=
 decide (0<=v.Scope)&&decide (v.Scope<=2)&&decide (0<=v.Slot)&&decide (v.Slot<=128)&&decide (v.Dims.length<=4) &&
 (bif decide (v.Scope=2) then inP at' v.Who&&Cu m v.Type_ else decide (v.Who=-1)&&decide (v.Type_=-1))&&Cd v.Dims.length fun i=>LX at' (v.Dims.getD i default)
def AP (op:Int):Nat:=if op=1∨op=2∨op=31∨op=32∨op=33∨op=34∨op=35∨op=39 then 0 else if op=24 then 3 else if 6<=op/\op<=23 then 2 else 1
def Ao (m:D.Model)(k:Int):D.Expr:=m.Exprs.getD k.toNat default
def H9 (m:D.Model)(a k:Int):Bool:=decide (-1<=k)&&decide (k<=1)&&!(decide (k=0)&&decide ((Ao m a).Op≠2))
def BX (m:D.Model)(at':Int)(args mt:List Int):Bool :=
 decide (1<=args.length)&&decide (args.length<=8)&&decide (mt.length=args.length)&&Cc at' args&&Cd mt.length fun i=>H9 m (args.getD i 0) (mt.getD i 0)
def EA (m:D.Model)(n:Int):List D.Loc:=(m.Procs.getD n.toNat default).Locs
def JE (m:D.Model)(x:D.Expr):Bool:=decide (0<=x.N)&&decide (x.N<1073741824)&&Cu m x.N&&decide (1<=x.Args.length)&&Cc (EA m x.N).length x.Args
def DY (at':Int)(op:Int)(i:Nat)(p:Int):Bool:=bif decide (i<AP op) then inP at' p else decide (p=-1)
def CP (m:D.Model)(at':Int):Bool :=
  let x:=Ao m at'
  decide (1<=x.Op)&&decide (x.Op<=39)&&(DY at' x.Op 0 x.A&&DY at' x.Op 1 x.B&&DY at' x.Op 2 x.C) &&
  (if x.Op=1 then Cx ⟨32,true⟩ x.N else if x.Op=2 then CT m at' x.V else if x.Op=30 then BX m at' x.Args x.Match&&(decide (x.N=0)||decide (x.N=1))
   else if x.Op=38 then JE m x else if x.Op=39 then decide (0<=x.N)&&decide (x.N<1073741824)&&Cu m x.N&&decide ((x.Args.length:Int)=(m.Procs.getD x.N.toNat default).Params)&&Cc at' x.Args else true)
def Bp (x:D.Expr):List Int :=
 [x.A,x.B,x.C].take (AP x.Op)++((if x.Op=30∨x.Op=39 then x.Args else[])++(if x.Op=2 then(if x.V.Scope=2 then[x.V.Who] else[])++x.V.Dims.map D.Dim.I else[]))
def Bw (l:D.Loc):List (List D.Trans):=l.Out::l.Esc
def Eg (p:D.Proc):Bool :=
 decide (p.Frame.length<=128)&&decide (p.Init.length=p.Frame.length)&&decide (Ex p.Frame p.Init<0)&&decide (0<=p.Params)&&decide (p.Params<=p.Frame.length)&&decide (0<=p.Active)&&decide (p.Active<=16)&&decide (1<=p.Prio)&&decide (p.Prio<=255)
def Gg (n:Nat)(many:Nat)(k:Nat):List (List D.Trans)->Option Nat
 | []=>some many
 | w::r=>bif decide (0<k)&&decide (w.length=0) then none else bif decide (1024<many+w.length) then none
   else bif Cd w.length (fun i=>inP n (w.getD i default).To) then Gg n (many+w.length) (k+1) r else none
def I6 (final:Int)(i:Nat)(l:D.Loc):Bool:=decide (8<l.Esc.length)||(l.Dstep&&l.Atomic)||(decide ((i:Int)=final)&&decide (0<l.Out.length+l.Esc.length))
def FQ (n:Nat)(final:Int)(many:Nat)(i:Nat):List D.Loc->Bool
 | []=>true
 | l::r=>bif I6 final i l then false else match Gg n many 0 (Bw l) with
  | some many'=>FQ n final many' (i+1) r
  | none=>false
def Ef (p:D.Proc):Bool :=
 decide (1<=p.Locs.length)&&decide (p.Locs.length<=256)&&inP p.Locs.length p.Start&&inP p.Locs.length p.Final&&FQ p.Locs.length p.Final 0 0 p.Locs
def Ho (l:D.Loc):Bool:=decide (l.Esc.length=0)&&!l.Atomic&&!l.Dstep
def Ep (p:D.Proc):Bool :=
 decide (p.Frame.length=0)&&decide (p.Params<=0)&&decide (p.Active<=0)&&decide (p.Provided=-1)&&Cd p.Locs.length fun i=>Ho (p.Locs.getD i default)
def Di (s:D.Stmt)(args n text:Bool):Bool:=(!args||decide (s.Args.length+s.Match.length=0))&&(!n||decide (s.N=0))&&(!text||decide (s.Text.size=0))
def CX (m:D.Model)(a:Int):Bool:=inP m.Exprs.length a
def BF (m:D.Model)(a:Int):Bool:=CX m a&&decide ((Ao m a).Op=2)&&decide ((Ao m a).V.Scope≠2)
def Fd (m:D.Model)(s:D.Stmt):Bool:=BX m m.Exprs.length s.Args s.Match&&Cd s.Match.length fun i=>!decide (s.Match.getD i 0=0)||BF m (s.Args.getD i 0)
def Au (m:D.Model)(s:D.Stmt):Bool :=
 if s.Kind=1∨s.Kind=3 then CX m s.A&&decide (s.B=-1)&&Di s true true true
 else if s.Kind=2 then BF m s.A&&CX m s.B&&Di s true true true
 else if s.Kind=4 then decide (s.A=-1)&&decide (s.B=-1)&&Cc m.Exprs.length s.Args&&decide (s.Match.length=0)&&decide (s.Text.size<=256)&&decide (s.N=0)
 else if s.Kind=5 then CX m s.A&&decide (s.B=-1)&&decide (1<=s.Args.length)&&decide (s.Args.length<=8)&&Cc m.Exprs.length s.Args&&decide (s.Match.length=0)&&(decide (s.N=0)||decide (s.N=1))&&decide (s.Text.size=0)
 else if s.Kind=6 then CX m s.A&&decide (s.B=-1)&&Fd m s&&decide (0<=s.N)&&decide (s.N<=3)&&decide (s.Text.size=0)
 else if s.Kind=7∨s.Kind=8 then decide (s.A=-1)&&decide (s.B=-1)&&Di s true true true
 else if s.Kind=9 then BF m s.A&&decide (s.B=-1)&&decide (0<=s.N)&&decide (s.N<m.Shapes.length)&&Di s true false true
 else false
def EQ (m:D.Model)(i:Int)(v:D.Var):Int :=
 if v.Scope=0 then m.Globals.length else if v.Scope=1 then(m.Procs.getD i.toNat default).Frame.length else(m.Procs.getD v.Type_.toNat default).Frame.length
def Ew (m:D.Model)(i run k:Int):Bool :=
 let x:=Ao m k
 (decide (x.Op=39)&&decide (k≠run))||(decide (i=m.Claim)&&(decide (x.Op=31)||(decide (x.Op=39)||(decide (x.Op=2)&&decide (x.V.Scope=1)))))||(decide (x.Op=2)&&decide (EQ m i x.V<CM x.V))
def K7 (m:D.Model)(i run:Int):Nat->List Bool->List Int->Bool
 | _,_,[]=>true
 | 0,_,_=>true
 | g+1,seen,k::r=>bif seen.getD k.toNat false then K7 m i run g seen r else bif Ew m i run k then false else K7 m i run g (seen.set k.toNat true) (r++Bp (Ao m k))
def load (m:D.Model)(seen:List Bool):Nat:=((List.range m.Exprs.length).map fun k=>bif seen.getD k false then 0 else(Bp (m.Exprs.getD k default)).length).sum
def A1 (m:D.Model):List Bool:=List.replicate m.Exprs.length false
def IK (m:D.Model)(i:Int)(list:List Int)(run:Int):Bool:=K7 m i run (list.length+load m (A1 m)+1) (A1 m) list
def JV (m:D.Model)(i:Int)(s:D.Stmt):Bool :=
 Au m s&&!(decide (i=m.Claim)&&(decide (s.Kind≠1)&&(decide (s.Kind≠3)&&(decide (s.Kind≠7)&&decide (s.Kind≠8))))) &&
 IK m i (s.Args++((if 0<=s.A then[s.A] else[])++(if 0<=s.B then[s.B] else[]))) (if s.Kind=1 then s.A else if s.Kind=2 then s.B else -1)
def IL (m:D.Model)(i:Int)(w:List D.Trans):Bool:=Cd w.length fun k=>JV m i (w.getD k default).S
def Nu (m:D.Model)(i:Int)(l:D.Loc):Bool:=Cd (Bw l).length fun k=>IL m i ((Bw l).getD k [])
def CW (m:D.Model)(i:Int):Bool :=
 let p:=m.Procs.getD i.toNat default
 (Cd p.Locs.length fun k=>Nu m i (p.Locs.getD k default))&&(decide (p.Provided<0)||IK m i [p.Provided] (-1))
def PY : List Bool->List Int->Option (List Bool)
 | had,[]=>some had
 | had,p::r=>bif had.getD p.toNat false then none else PY (had.set p.toNat true) r
def Fp (m:D.Model):Nat->Nat->List Bool->Int
 | 0,_,_=>-1
 | g+1,i,had=>bif CP m i then(match PY had (Bp (m.Exprs.getD i default)) with
  | some had'=>Fp m g (i+1) had'
  | none=>i) else i
def FY (m:D.Model):Int:=HB m.Shapes.length fun i=>CF (m.Shapes.getD i default)
def Iq (m:D.Model):Int:=HB m.Chans.length fun i=>inP m.Shapes.length (m.Chans.getD i 0)
def Ij (m:D.Model):Int:=Fp m m.Exprs.length 0 (A1 m)
def BS (m:D.Model):Int × Int :=
 bif decide (128<m.Globals.length)||!decide (m.Init.length=m.Globals.length) then(1,-1)
 else bif decide (0<=Ex m.Globals m.Init) then(1,Ex m.Globals m.Init)
 else bif decide (32<m.Shapes.length)||decide (32<m.Chans.length) then(2,-1)
 else bif decide (0<=FY m) then(2,FY m)
 else bif decide (0<=Iq m) then(2,Iq m)
 else bif decide (m.Procs.length<1)||(decide (16<m.Procs.length)||(decide (m.Claim < -1)||(decide ((m.Procs.length:Int)<=m.Claim)||decide (4096<m.Exprs.length)))) then(3,-1)
 else bif decide (0<=Ij m) then(3,Ij m) else(0,0)
def De (m:D.Model)(i:Nat):Bool :=
 let p:=m.Procs.getD i default
 !Eg p||(!Ef p||(decide (p.Provided < -1)||(decide ((m.Exprs.length:Int)<=p.Provided)||(decide ((i:Int)=m.Claim)&&!Ep p))))
def Fy (m:D.Model):Int:=HB m.Procs.length fun i=>!De m i
def El (m:D.Model)(k:Nat):Int:=((m.Procs.take k).map D.Proc.Active).sum
def H5 (m:D.Model):Int:=HB m.Procs.length fun i=>CW m i
def Eh (m:D.Model):Int × Int × Int :=
 bif decide (0<(BS m).1) then(40,BS m) else bif decide (0<=Fy m) then(40,4,Fy m) else bif decide (16<El m m.Procs.length) then(40,5,-1)
 else bif decide (0<=H5 m) then(40,6,H5 m) else(0,0,0)
theorem B1 {a x:Int}:inP a x=true ↔ 0<=x/\x<a:=by simp[inP]
theorem Zf {α:Type}{l:List α}{i:Nat}{d:α}(h:i<l.length):l.getD i d∈l:=by simp[List.getD,h]
theorem Co {α:Type}{l:List α}{d:α}{f:α->Bool}:Cd l.length (fun i=>f (l.getD i d))=true ↔ ∀ x∈l,f x=true:=by
 rw[AK]
 refine⟨fun h x hx=>?_,fun h i hi=>h _ (Zf hi)⟩
 obtain⟨i,hi,rfl⟩:=List.mem_iff_getElem.1 hx
 have:=h i hi
 simpa[List.getD,hi] using this
theorem EC {a:Int}{l:List Int}:Cc a l=true ↔ ∀ x∈l,0<=x/\x<a:=by
 unfold Cc
 rw[Co (f:=fun x=>inP a x)]
 exact⟨fun h x hx=>B1.1 (h x hx),fun h x hx=>B1.2 (h x hx)⟩
theorem O0 (op:Int):AP op<=3:=by unfold AP;split<;>(try split)<;>(try split)<;>omega
theorem LR {m:D.Model}{i:Int}(h:CP m i=true):∀ p∈Bp (Ao m i),0<=p/\p<i:=by
 unfold CP at h
 simp only[Bool.and_eq_true]at h
 obtain⟨⟨⟨_,_⟩,⟨hA,hB⟩,hC⟩,hO⟩:=h
 generalize Ao m i=x at *
 intro p hp
 unfold Bp at hp
 simp only[List.mem_append]at hp
 rcases hp with hp | hp | hp
 ·have h3:=O0 x.Op
  unfold DY at hA hB hC
  rcases(show AP x.Op=0∨AP x.Op=1∨AP x.Op=2∨AP x.Op=3 by omega) with e | e | e | e<;>rw[e]at hp hA hB hC<;>simp[inP]at hp hA hB hC
  ·subst hp;omega
  ·rcases hp with rfl | rfl<;>omega
  ·rcases hp with rfl | rfl | rfl<;>omega
 ·split at hp
  ·rename_i h30
   rcases h30 with h30 | h39
   ·rw[if_neg (by omega),if_neg (by omega),if_pos h30]at hO
    simp only[Bool.and_eq_true,BX]at hO
    exact EC.1 hO.1.1.2 p hp
   ·rw[if_neg (by omega),if_neg (by omega),if_neg (by omega),if_neg (by omega),if_pos h39]at hO
    simp only[Bool.and_eq_true]at hO
    exact EC.1 hO.2 p hp
  ·cases hp
 ·split at hp
  ·rename_i h2
   rw[if_neg (by omega),if_pos h2]at hO
   simp only[Bool.and_eq_true,CT]at hO
   obtain⟨⟨_,hW⟩,hD⟩:=hO
   simp only[List.mem_append]at hp
   rcases hp with hp | hp
   ·split at hp
    ·rename_i hs
     simp only[List.mem_singleton]at hp
     subst hp
     simp only[hs,decide_true,cond_true,Bool.and_eq_true]at hW
     exact B1.1 hW.1
    ·cases hp
   ·obtain⟨d,hd,rfl⟩:=List.mem_map.1 hp
    have:=(Co (f:=fun d=>LX i d)).1 hD d hd
    simp only[LX,Bool.and_eq_true]at this
    exact B1.1 this.1.1.1.1
  ·cases hp
theorem UD {m:D.Model}{seen:List Bool}{k:Nat}(hk:seen.getD k false=false)(hs:k<seen.length):∀ (l:List Nat),l.Nodup ->
  (l.map fun j=>bif seen.getD j false then 0 else(Bp (m.Exprs.getD j default)).length).sum=(l.map fun j=>bif (seen.set k true).getD j false then 0 else(Bp (m.Exprs.getD j default)).length).sum+(if k∈l then(Bp (m.Exprs.getD k default)).length else 0)
 | [],_=>rfl
 | j::l,hn=>by
  have ih:=UD (m:=m) hk hs l (List.nodup_cons.1 hn).2
  have hj:=(List.nodup_cons.1 hn).1
  simp only[List.map_cons,List.sum_cons,ih]
  by_cases hjk:k=j
  ·subst hjk
   have h1:(seen.set k true).getD k false=true:=by simp[List.getD,hs]
   rw[h1,hk,if_neg hj,if_pos (List.mem_cons_self ..)]
   simp only[cond_true,cond_false];omega
  ·have h1:(seen.set k true).getD j false=seen.getD j false:=by simp[List.getD,hjk]
   have h2:(k∈j::l)=(k∈l):=by simp[hjk]
   rw[h1]
   simp only[h2];omega
theorem Ae0 {m:D.Model}{seen:List Bool}{k:Nat}(hk:seen.getD k false=false)(hs:k<seen.length)(hm:seen.length=m.Exprs.length):load m seen=load m (seen.set k true)+(Bp (m.Exprs.getD k default)).length:=by
 unfold load
 rw[UD hk hs _ List.nodup_range,if_pos (List.mem_range.2 (by omega))]
theorem LP {x:D.Expr}(h1:x.Args.length<=1048576)(h2:x.V.Dims.length<=1048576):(Bp x).length<=2097156:=by
 unfold Bp
 simp only[List.length_append,List.length_take,List.length_cons,List.length_nil]
 split<;>split<;>(try split)<;>simp<;>omega
theorem AgU {m:D.Model}(h:∀ x∈m.Exprs,x.Args.length<=1048576/\x.V.Dims.length<=1048576)(seen:List Bool):load m seen<=m.Exprs.length*2097156:=by
 unfold load
 have:∀ (l:List Nat),(∀ j∈l,j<m.Exprs.length)->(l.map fun k=>bif seen.getD k false then 0 else(Bp (m.Exprs.getD k default)).length).sum<=l.length*2097156:=by
  intro l
  induction l with
  | nil=>intro _;simp
  | cons j l ih =>
   intro hl
   have h1:=ih fun i hi=>hl i (List.mem_cons_of_mem _ hi)
   have h2:=h _ (Zf (d:=default) (hl j (List.mem_cons_self ..)))
   have h3:=LP h2.1 h2.2
   simp only[List.map_cons,List.sum_cons,List.length_cons]
   cases seen.getD j false<;>simp only[cond_true,cond_false]<;>omega
 have h1:=this (List.range m.Exprs.length) fun j hj=>List.mem_range.1 hj
 simpa using h1
theorem AL {n:Int}(h1:-9223372036854775808<=n)(h2:n<=9223372036854775807):IntKind.i64.wrap n=n:=IntWalk.i64_in n ⟨h1,h2⟩
theorem Ak {k:Nat}(h:k<=4611686018427387904):IntKind.i64.wrap ((k:Int)+1)=((k+1:Nat):Int):=by rw[AL (by omega) (by omega)];omega
theorem An {α:Type}{l:List α}{i:Nat}{d:α}(h:i<l.length):l.getD i d∈l:=by simp[List.getD,h]
theorem AH {c:Ctx}(hT:TOk c.P c.T)(hmx:c.P.follows .mixedOrders=true){rel:List Nat}(n:Nat)(S:Nat->St)(I:Nat->Prop)(hl:c.sub rel=.loop (E9 (rel++[0]) c.code))(hB:EH c.N (E9 (rel++[0]) c.code)=true)(h0:I 0)
  (round:∀ k,k<=n->I k->∀ J:St->Prop,(∀ st',k<n->I (k+1)->Up (fun s=>s=S (k+1)) st'->J st')->AY ((c.loop rel J).goal (S k))):Aq c rel (S 0):=by
 refine AA hT hmx (fun g st=>∃ k,k<=n/\g=n - k/\I k/\st=S k) hl hB ⟨n,Up.of ⟨0,Nat.zero_le _,rfl,h0,rfl⟩⟩ ?_
 rintro g st ⟨k,hk,rfl,hI,rfl⟩
 refine round k hk hI _ fun st' hlt hI' hup=>⟨n - (k+1),by omega,?_⟩
 obtain⟨s',hc,hs⟩:=hup
 exact⟨s',hc,k+1,hlt,rfl,hI',hs⟩
def tP : TE:=⟨.ptr,1,8,[.sc (.pointer none)],false⟩
def tS (e:Nat):TE:=⟨.sl e,1,24,[.nl],false⟩
def tI (k:IntKind)(b:Nat):TE:=⟨.int k,1,b,[.sc (.int k 0)],false⟩
def tF : TE:=⟨.fn,1,8,[.sc .nilFunc],false⟩
def tG (k:TK)(s b:Nat)(z:List VV):TE:=⟨k,s,b,z,false⟩
def tC (k:TK)(s b:Nat)(z:List VV):TE:=⟨k,s,b,z,true⟩
def z8 : VV:=.sc (.int .i64 0)
def zb : VV:=.sc (.int .u8 0)
def zf : VV:=.sc (.bool false)
def zs : VV:=.sc (.string ByteArray.empty)
def zp : VV:=.sc (.pointer none)
def zn : VV:=.sc .nilFunc
def tN : TE:=⟨.other,0,0,[],false⟩
def tbL : List (List TE):=[[tN,tF,tI .i64 8,tI .i64 8,tG (.bool) 1 1 [zf],tI .u8 1,tI .u8 1,tC (.agg [(0,2),(1,3),(2,4),(3,6)]) 4 24 [z8,z8,zf,zb],tC (.agg [(0,2),(1,3),(2,4),(3,6)]) 4 24 [z8,z8,zf,zb],tG (.str) 1 16 [zs],tG (.str) 1 16 [zs],tG (.str) 1 16 [zs],tI .u64 8,tG (.agg [(0,9),(1,12)]) 2 24 [zs,.sc (.int .u64 0)],tG (.agg [(0,9),(1,12)]) 2 24 [zs,.sc (.int .u64 0)],tP],
 [tP,tP,tG (.agg [(0,17)]) 1 8 [zp],tG (.agg [(0,17)]) 1 8 [zp],tG (.ifc) 1 16 [.sc .nilIface],tI .i32 4,tS 60,tS 2,tS 109,tS 3,tS 71,tS 58,tG (.agg [(0,22),(1,23),(2,24),(3,25),(4,26),(5,3),(6,27)]) 7 152 [.nl,.nl,.nl,.nl,.nl,z8,.nl],tG (.agg [(0,22),(1,23),(2,24),(3,25),(4,26),(5,3),(6,27)]) 7 152 [.nl,.nl,.nl,.nl,.nl,z8,.nl],tS 96,tS 86],
 [tG (.agg [(0,23),(1,30),(2,31),(3,3),(4,3),(5,3)]) 6 96 [.nl,.nl,.nl,z8,z8,z8],tG (.agg [(0,23),(1,30),(2,31),(3,3),(4,3),(5,3)]) 6 96 [.nl,.nl,.nl,z8,z8,z8],tF,tF,tF,tS 45,tF,tI .i64 8,tN,tF,tC (.agg [(0,3),(1,3),(2,3),(3,3),(4,3),(5,3),(6,3)]) 7 56 [z8,z8,z8,z8,z8,z8,z8],tC (.agg [(0,3),(1,3),(2,3),(3,3),(4,3),(5,3),(6,3)]) 7 56 [z8,z8,z8,z8,z8,z8,z8],tG (.agg [(0,43),(7,33),(13,39),(14,9)]) 15 176 [z8,z8,z8,z8,z8,z8,z8,.nl,.nl,.nl,z8,z8,z8,z8,zs],tG (.agg [(0,43),(7,33),(13,39),(14,9)]) 15 176 [z8,z8,z8,z8,z8,z8,z8,.nl,.nl,.nl,z8,z8,z8,z8,zs],tC (.agg [(0,3),(1,3),(2,3),(3,3),(4,3),(5,39)]) 6 48 [z8,z8,z8,z8,z8,z8],tC (.agg [(0,3),(1,3),(2,3),(3,3),(4,3),(5,39)]) 6 48 [z8,z8,z8,z8,z8,z8]],
 [tN,tF,tF,tF,tF,tF,tS 152,tG (.agg [(0,3),(1,3),(2,3),(3,3),(4,54)]) 5 56 [z8,z8,z8,z8,.nl],tG (.agg [(0,3),(1,3),(2,3),(3,3),(4,54)]) 5 56 [z8,z8,z8,z8,.nl],tG (.agg [(0,3),(1,2),(2,3),(3,3),(4,3),(5,56),(10,25),(11,25)]) 12 144 (List.replicate 9 z8++[.nl,.nl,.nl]),tG (.agg [(0,3),(1,2),(2,3),(3,3),(4,3),(5,56),(10,25),(11,25)]) 12 144 (List.replicate 9 z8++[.nl,.nl,.nl]),tC (.agg [(0,3),(1,4)]) 2 16 [z8,zf],tC (.agg [(0,3),(1,4)]) 2 16 [z8,zf],tG (.agg [(0,3),(1,3),(2,3),(3,3),(4,25),(5,25),(6,9)]) 7 96 [z8,z8,z8,z8,.nl,.nl,zs],tG (.agg [(0,3),(1,3),(2,3),(3,3),(4,25),(5,25),(6,9)]) 7 96 [z8,z8,z8,z8,.nl,.nl,zs],tG (.agg [(0,62),(7,3),(8,3)]) 9 112 [z8,z8,z8,z8,.nl,.nl,zs,z8,z8]],
 [tG (.agg [(0,62),(7,3),(8,3)]) 9 112 [z8,z8,z8,z8,.nl,.nl,zs,z8,z8],tS 64,tS 65,tG (.agg [(0,65),(1,66),(2,4),(3,4),(4,4),(5,4),(6,4)]) 7 56 [.nl,.nl,zf,zf,zf,zf,zf],tG (.agg [(0,65),(1,66),(2,4),(3,4),(4,4),(5,4),(6,4)]) 7 56 [.nl,.nl,zf,zf,zf,zf,zf],tS 68,tG (.agg [(0,9),(1,3),(2,22),(3,23),(4,69),(5,3),(6,3),(7,3),(8,3),(9,3)]) 10 136 [zs,z8,.nl,.nl,.nl,z8,z8,z8,z8,z8],tG (.agg [(0,9),(1,3),(2,22),(3,23),(4,69),(5,3),(6,3),(7,3),(8,3),(9,3)]) 10 136 [zs,z8,.nl,.nl,.nl,z8,z8,z8,z8,z8],tS 75,tN,tF,tS 4,tF,tF,tF,tG (.agg [(0,29),(7,33),(13,3),(14,4),(15,75)]) 16 288 [.nl,.nl,.nl,.nl,.nl,z8,.nl,.nl,.nl,.nl,z8,z8,z8,z8,zf,.nl]],
 [tG (.agg [(0,29),(7,33),(13,3),(14,4),(15,75)]) 16 288 [.nl,.nl,.nl,.nl,.nl,z8,.nl,.nl,.nl,.nl,z8,z8,z8,z8,zf,.nl],tS 47,tF,tF,tF,tG (.agg [(0,3),(1,3),(2,3),(3,23)]) 4 48 [z8,z8,z8,.nl],tG (.agg [(0,3),(1,3),(2,3),(3,23)]) 4 48 [z8,z8,z8,.nl],tF,tF,tF,tN,tF,tF,tF,tS 110,tG (.agg [(0,3),(1,94)]) 2 32 [z8,.nl]],
 [tG (.agg [(0,3),(1,94)]) 2 32 [z8,.nl],tN,tF,tN,tF,tF,tF,tF,tF,tF,tF,tF,tG (.agg [(0,3),(1,22)]) 2 32 [z8,.nl],tG (.agg [(0,3),(1,22)]) 2 32 [z8,.nl],tS 2,tF],
 [tF,tN,tF,tF,tS 121,tF,tF,tS 123,tG (.agg [(0,4),(1,3),(2,119)]) 3 40 [zf,z8,.nl],tG (.agg [(0,4),(1,3),(2,119)]) 3 40 [zf,z8,.nl],tC (.agg [(0,3),(1,3),(2,3)]) 3 24 [z8,z8,z8],tC (.agg [(0,3),(1,3),(2,3)]) 3 24 [z8,z8,z8],tF,tN,tF,tF],
 [tF,tF,tF,tF,tF,tN,tF,tF,tP,tG (.agg [(0,29)]) 7 152 [.nl,.nl,.nl,.nl,.nl,z8,.nl],tG (.agg [(0,29)]) 7 152 [.nl,.nl,.nl,.nl,.nl,z8,.nl],tF,tF,tF,tF,tF],
 [tF,tN,tF,tF,tF,tF,tF,tC (.agg [(0,3),(1,3),(2,3)]) 3 24 [z8,z8,z8],tC (.agg [(0,3),(1,3),(2,3)]) 3 24 [z8,z8,z8],tF,tF,tF,tF,tF,tF,tF],
 [tF,tF,tF,tF,tN,tF,tF,tF,tF,tF,tF,tF,tF,tF,tF,tF],
 [tF,tF,tN,tF,tF,tF,tF,tF,tF,tF,tF,tF,tF,tF,tF,tF],
 [tS 5,tF,tN,tF,tF,tN,tF,tN,tF,tF,tF,tF,tF,tF,tF,tF],
 [tF,tG (.arr 3 3) 3 24 [z8,z8,z8],tF,tF,tF,tF,tF,tF,tF,tF,tF,tF,tI .u64 8,tF,tF,tF],
 [tI .u64 8,tF,tF,tF,tF,tG (.agg [(0,17),(1,17),(2,17),(3,9)]) 4 40 [zp,zp,zp,zs],tG (.agg [(0,17),(1,17),(2,17),(3,9)]) 4 40 [zp,zp,zp,zs],tG (.arr 0 16) 0 0 [],tG (.agg [(0,231)]) 0 0 [],tG (.agg [(0,231)]) 0 0 [],tF,tI .u32 4,tI .u8 1,tI .u8 1,tF,tP],
 [tI .i32 4,tI .i32 4,tG (.agg [(0,12),(1,12),(2,235),(3,236),(4,5),(5,5),(6,237),(7,238),(8,239),(9,240),(10,241)]) 11 48 [.sc (.int .u64 0),.sc (.int .u64 0),.sc (.int .u32 0),zb,zb,zb,zb,zn,zp,.sc (.int .i32 0),.sc (.int .i32 0)],tG (.agg [(0,12),(1,12),(2,235),(3,236),(4,5),(5,5),(6,237),(7,238),(8,239),(9,240),(10,241)]) 11 48 [.sc (.int .u64 0),.sc (.int .u64 0),.sc (.int .u32 0),zb,zb,zb,zb,zn,zp,.sc (.int .i32 0),.sc (.int .i32 0)],tN]]
def tb (t:TypeId):TE:=bif Nat.blt t 245 then(tbL.getD (t / 16) []).getD (t % 16) tN else tN
def Rz : List Nat:=(List.range 245).filter fun t=>match(tb t).k with | .other=>false | _=>true
theorem Af7 : Rz.map tb=Rz.map (Yy Tryz.prog):=by kernel_rfl
theorem AcL : ((List.range 245).all fun t=>Rz.contains t||(match(tb t).k with | .other=>true | _=>false))=true:=by kernel_rfl
theorem Ai : TOk Tryz.prog tb:=by
 refine⟨fun t=>?_⟩
 by_cases ht:t<245
 ·have h:=List.all_eq_true.1 AcL t (List.mem_range.2 ht)
  rw[Bool.or_eq_true]at h
  rcases h with h | h
  ·left
   have hm:t∈Rz:=by simpa using h
   obtain⟨i,hi,rfl⟩:=List.getElem_of_mem hm
   have e:=congrArg (·[i]?) Af7
   simpa[hi] using e
  ·right
   generalize (tb t).k=k at h
   cases k<;>first | rfl | cases h
 ·right
  have hb:Nat.blt t 245=false:=by
   cases hq:Nat.blt t 245 with
   | true=>exact absurd (Nat.le_of_ble_eq_true hq) ht
   | false=>rfl
  unfold tb
  rw[hb]
  rfl
theorem Aj : Tryz.prog.follows .mixedOrders=true:=by kernel_rfl
def ZU : Shp:={ α:=Int,enc:=fun b=>([],Aa b) }
def ZV : Shp:={ α:=Bool,enc:=fun b=>([],Ac b) }
def Aga : Shp:={ α:=List Int,enc:=fun l=>([],Ad true l) }
def AiJ : Shp:={ α:=List (List D.Trans),enc:=fun l=>([],AW true l) }
def Ac7 : Shp:={ α:=Int × Int,enc:=fun y=>([],.tup [Aa y.1,Aa y.2]) }
def VF : Shp:={ α:=Int × Int × Int,enc:=fun y=>([],.tup [Aa y.1,Aa y.2.1,Aa y.2.2]) }
def Bx (f:FuncId):Shp :=
 bif Nat.beq f 146||Nat.beq f 98||Nat.beq f 139||Nat.beq f 147 then ZU
 else bif Nat.beq f 101 then Aga else bif Nat.beq f 102 then AiJ else bif Nat.beq f 58 then Ac7 else bif Nat.beq f 28 then VF else ZV
def tpM (m:D.Model):VV:=.tp (Af m)
def A5 : Ann:={ keep:=fun _=>[] }
abbrev BB (c:Bool)(A B:Prop):Prop:=(c=true->A)/\(c=false->B)
abbrev LQ (a b:VV):Prop:=leO [] []/\VV.le a b
abbrev inX (x:Int)(n:Nat):Prop:=0<=x/\x<(n:Int)
abbrev VC (f:FuncId)(xs:List VV)(r:VV):Prop:=Al Tryz.prog f [] xs [] r
noncomputable abbrev fc (Sh:Shs) (L:Ann) (f:Func) (hs:List Ob) (r:VV):Ctx:=Df Tryz.prog tb Sh L true f hs r
def MJ : Ann:={ keep:=fun
  | [0,1,0,1,1,1]=>[3,24,25,26]
  | _=>[] }
def MD : Ann:={ keep:=fun
  | [0,1,0,1]=>[0,1,7,8]
  | _=>[] }
def MG : Ann:={ keep:=fun
  | [0,1,0,1,1]=>[26,27,28]
  | _=>[] }
def MS : Ann:={ keep:=fun
  | [0,1,0,1]=>[0,7,8,9]
  | _=>[] }
def KV : Ann:={ keep:=fun
  | [0,1,0,1]=>[0,7,8,9]
  | _=>[] }
def Jg : Ann:={ keep:=fun
  | [0,1,0,1,1,1]=>[1,58,59,60]
  | _=>[] }
def Jk : Ann:={ keep:=fun
  | [0,1,0,1,1]=>[0,2,32,33,34]
  | _=>[] }
def HI : Ann:={ keep:=fun
  | [0,1,0,1,1,1]=>[0,1,5,30,31]
  | _=>[] }
def Fv : Ann:={ keep:=fun
  | [0,1,0,1,1,1,1]=>[1,3,4,43,44,45]
  | [0,1,1,1,0,0,1,1,0,0,1,0,1,1,1,1]=>[1,3,4,43,44,45,79,80,81]
  | [0,1,1,1,1,1,0,0,1,1,0,0,1,1,1,0,0,1,1,0,0,1,0,1,1,1,1]=>[1,3,4,43,44,45,79,80,81,99,100,101]
  | _=>[] }
def Jl : Ann:={ keep:=fun
  | [0,1,0,1,1]=>[25,26,27]
  | _=>[] }
def MF : Ann:={ keep:=fun
  | [0,1,0,1,1]=>[0,3,21,22,23]
  | _=>[] }
def Jh : Ann:={ keep:=fun
  | [1]=>[0,1,2,3,9,10,11]
  | _=>[] }
def GN : Ann:={ keep:=fun
  | [0,1,0,1,1]=>[0,1,5,21,22,23]
  | [0,1,1,0,0,1,1,0,0,1,0,1,1]=>[0,1,5,21,22,23,28,29,30]
  | [0,1,1,0,0,1,1,0,0,1,1,0,0,1,1,0,0,1,0,1,1]=>[0,1,5,21,22,23,28,29,30,34,35,36]
  | _=>[] }
def Dk : Ann:={ keep:=fun
  | [0,1,0,1,1,1,1,1]=>[0,4,50,51,52]
  | [0,1,0,1,1,1,1,1,1]=>[0,4,63,64,65]
  | [0,1,0,1,1,1,1,1,1,1,1,1]=>[0,4,10,116,117]
  | [0,1,1,1,0,0,1,1,0,0,1,0,1,1,1,1,1,1,1,1,1]=>[0,4,10,11,116,117,130,131,132]
  | _=>[] }
def GO : Ann:={ keep:=fun
  | [0,1,1,0,1,0,1,1,1]=>[3,45,46,47]
  | _=>[] }
def HJ : Ann:={ keep:=fun
  | [0,1,0,1,1,1,1]=>[1,5,8,25,26,27]
  | [0,1,0,1,1,1,1,1,1]=>[5,74,75]
  | _=>[] }
def EU (l:List Bool):Nat->List VV:=fun i=>[Ac (l.getD i false)]
def AJ (l:List Int):Nat->List VV:=fun i=>[Aa (l.getD i 0)]
def NM (n:Int)(v:D.Var)(k:Int):St:=Av [(3,Aa n),(24,BK true v.Dims),(25,Aa v.Dims.length),(26,Aa k)] []
def NB (t:List D.Type)(init:List Int)(k:Int):St:=Av [(0,Az true t),(1,Ad true init),(7,Aa t.length),(8,Aa k)] []
def NE (s:D.Shape)(k:Int):St:=Av [(26,Az true s.Fields),(27,Aa s.Fields.length),(28,Aa k)] []
def NQ (a:Int)(l:List Int)(k:Int):St:=Av [(0,Aa a),(7,Ad false l),(8,Aa l.length),(9,Aa k)] []
def Lt (a:Int)(l:List Int)(k:Int):St:=Av [(0,Aa a),(7,Ad true l),(8,Aa l.length),(9,Aa k)] []
def Ma (a:Int)(v:D.Var)(k:Int):St:=Av [(1,Aa a),(58,BK true v.Dims),(59,Aa v.Dims.length),(60,Aa k)] []
def Jy (m:D.Model)(args mt:List Int)(k:Int):St:=Av [(0,tpM m),(2,Ad true args),(32,Ad true mt),(33,Aa mt.length),(34,Aa k)] []
def Ff (m:D.Model)(a:Int)(x:D.Expr)(k:Int):St:=Av [(0,tpM m),(1,Aa a),(5,.bp 0 0),(30,.agg [Aa x.A,Aa x.B,Aa x.C]),(31,Aa k)] [.box (AE x)]
def Lp (p:D.Proc)(many k:Int):St:=Av [(1,.bp 0 0),(3,Aa p.Locs.length),(4,Aa many),(43,Cm true p.Locs),(44,Aa p.Locs.length),(45,Aa k)] [.box (AO p)]
def Lo (p:D.Proc)(many k:Int)(ws:List (List D.Trans))(j:Int):St:=Av [(1,.bp 0 0),(3,Aa p.Locs.length),(4,Aa many),(43,Cm true p.Locs),(44,Aa p.Locs.length),(45,Aa k),(79,AW true ws),(80,Aa ws.length),(81,Aa j)] [.box (AO p)]
def Ln (p:D.Proc)(many k:Int)(ws:List (List D.Trans))(j:Int)(w:List D.Trans)(h:Int):St:=Av [(1,.bp 0 0),(3,Aa p.Locs.length),(4,Aa many),(43,Cm true p.Locs),(44,Aa p.Locs.length),(45,Aa k),(79,AW true ws),(80,Aa ws.length),(81,Aa j),(99,As true w),(100,Aa w.length),(101,Aa h)] [.box (AO p)]
def Jz (p:D.Proc)(k:Int):St:=Av [(25,Cm true p.Locs),(26,Aa p.Locs.length),(27,Aa k)] []
def ND (m:D.Model)(s:D.Stmt)(k:Int):St:=Av [(0,tpM m),(3,.bp 0 0),(21,Ad true s.Match),(22,Aa s.Match.length),(23,Aa k)] [.box (Ar s)]
def Oq (m:D.Model)(i:Int)(list:List Int)(run:Int)(seen:List Bool)(todo:List Int)(k:Int):St:=Av [(0,tpM m),(1,Aa i),(2,Ad false list),(3,Aa run),(9,.ow 0 0 seen.length),(10,.ow 1 0 todo.length),(11,Aa k)] [.arr true 0 seen.length 1 (EU seen),.arr true 0 todo.length 1 (AJ todo)]
def YB (m:D.Model)(i:Int)(list:List Int)(run:Int):St:=Av [(0,tpM m),(1,Aa i),(2,Ad false list),(3,Aa run),(9,.dead),(10,.dead),(11,.dead)] []
def Lm (m:D.Model)(i:Int)(p:D.Proc)(k:Int):St:=Av [(0,tpM m),(1,Aa i),(5,.bp 0 0),(21,Cm true p.Locs),(22,Aa p.Locs.length),(23,Aa k)] [.box (AO p)]
def Ll (m:D.Model)(i:Int)(p:D.Proc)(k:Int)(ws:List (List D.Trans))(j:Int):St:=Av [(0,tpM m),(1,Aa i),(5,.bp 0 0),(21,Cm true p.Locs),(22,Aa p.Locs.length),(23,Aa k),(28,AW true ws),(29,Aa ws.length),(30,Aa j)] [.box (AO p)]
def NN (m:D.Model)(i:Int)(p:D.Proc)(k:Int)(ws:List (List D.Trans))(j:Int)(w:List D.Trans)(h:Int):St:=Av [(0,tpM m),(1,Aa i),(5,.bp 0 0),(21,Cm true p.Locs),(22,Aa p.Locs.length),(23,Aa k),(28,AW true ws),(29,Aa ws.length),(30,Aa j),(34,As true w),(35,Aa w.length),(36,Aa h)] [.box (AO p)]
def RG (m:D.Model)(k:Int):St:=Av [(0,tpM m),(4,.bp 0 0),(50,AX true m.Shapes),(51,Aa m.Shapes.length),(52,Aa k)] [.box (Af m)]
def RF (m:D.Model)(k:Int):St:=Av [(0,tpM m),(4,.bp 0 0),(63,Ad true m.Chans),(64,Aa m.Chans.length),(65,Aa k)] [.box (Af m)]
def VB (m:D.Model)(had:List Bool)(k:Int):St:=Av [(0,tpM m),(4,.bp 0 0),(10,.ow 1 0 had.length),(116,Aa m.Exprs.length),(117,Aa k)] [.box (Af m),.arr true 0 had.length 1 (EU had)]
def VA (m:D.Model)(had:List Bool)(k:Int)(l:List Int)(j:Int):St:=Av [(0,tpM m),(4,.bp 0 0),(10,.ow 1 0 had.length),(11,Aa k),(116,Aa m.Exprs.length),(117,Aa k),(130,Ad true l),(131,Aa l.length),(132,Aa j)] [.box (Af m),.arr true 0 had.length 1 (EU had)]
def VD (x:D.Expr)(l:List Int)(k:Int):St:=Av [(3,.ow 0 0 l.length),(45,BK true x.V.Dims),(46,Aa x.V.Dims.length),(47,Aa k)] [.arr true 0 l.length 1 (AJ l)]
def Ls (m:D.Model)(many k:Int):St:=Av [(1,.bp 0 0),(5,.bp 1 0),(8,Aa many),(25,AM true m.Procs),(26,Aa m.Procs.length),(27,Aa k)] [.box (Af m),.box (Af m)]
def Lr (m:D.Model)(k:Int):St:=Av [(5,.bp 0 0),(74,Aa m.Procs.length),(75,Aa k)] [.box (Af m)]
set_option maxRecDepth 100000
theorem Af5 (b:Bool)(t:D.Type):(fc Bx A5 Tryz.f138 [] (Ac b)).goal (St.init [] [.agg (Bs t)]) =
  (LQ (Ac (bif bif decide (t.Bits>=1) then decide (t.Bits<=32) else false then bif bif !t.Signed then true else t.Bits==16 then true else t.Bits==32 else false)) (Ac b)):=by kernel_rfl
theorem Afi (b:Bool)(t:D.Type)(v:Int):(fc Bx A5 Tryz.f117 [] (Ac b)).goal (St.init [] [.agg (Bs t),Aa v]) =
  (∃ (y:Bool),VC 138 [VV.agg (Bs t)] (Ac y)/\BB (!y) (LQ (Ac false) (Ac b)) (BB t.Signed ((0:Int)<=IntKind.i64.wrap (t.Bits - (1:Int))/\((true&&decide (v>=IntKind.i64.wrap ((-1:Int)*(2:Int) ^ min (IntKind.i64.wrap (t.Bits - (1:Int))).toNat IntKind.i64.bits))==true)=true->(0:Int)<=IntKind.i64.wrap (t.Bits - (1:Int)))/\LQ (Ac (bif decide (v>=IntKind.i64.wrap ((-1:Int)*(2:Int) ^ min (IntKind.i64.wrap (t.Bits - (1:Int))).toNat IntKind.i64.bits)) then decide (v<IntKind.i64.wrap ((1:Int)*(2:Int) ^ min (IntKind.i64.wrap (t.Bits - (1:Int))).toNat IntKind.i64.bits)) else false)) (Ac b)) (((true&&decide (v>=0)==true)=true->(0:Int)<=t.Bits)/\LQ (Ac (bif decide (v>=0) then decide (v<IntKind.i64.wrap ((1:Int)*(2:Int) ^ min t.Bits.toNat IntKind.i64.bits)) else false)) (Ac b)))):=by kernel_rfl
theorem Aaw (r:Int)(v:D.Var):(fc Bx MJ Tryz.f146 [] (Aa r)).goal (St.init [] [.agg (BN v)]) =
  (BB (bif bif decide (v.Slot<0) then true else decide (v.Slot > 1073741824) then true else decide ((↑v.Dims.length:Int) > 4)) (LQ (Aa 0) (Aa r)) (Aq (fc Bx MJ Tryz.f146 [] (Aa r)) [1,1,1,0,1,0] (NM (IntKind.i64.wrap (v.Slot+(1:Int))) v (0:Int)))):=by kernel_rfl
theorem ZE (r:Int)(t:List D.Type)(init:List Int):(fc Bx MD Tryz.f98 [] (Aa r)).goal (St.init [] [Az true t,Ad true init]) =
  (Aq (fc Bx MD Tryz.f98 [] (Aa r)) [1,0,1,0] (NB t init (0:Int))):=by kernel_rfl
theorem ZX (b:Bool)(s:D.Shape):(fc Bx MG Tryz.f99 [] (Ac b)).goal (St.init [] [.agg (BZ s)]) =
  (BB (bif bif bif decide (s.Room<0) then true else decide (s.Room > 16) then true else decide ((↑s.Fields.length:Int)<1) then true else decide ((↑s.Fields.length:Int) > 8)) (LQ (Ac false) (Ac b)) (Aq (fc Bx MG Tryz.f99 [] (Ac b)) [1,1,0,1,0] (NE s (0:Int)))):=by kernel_rfl
theorem Xi (b:Bool)(m:D.Model)(n:Int):(fc Bx A5 Tryz.f144 [] (Ac b)).goal (St.init [] [tpM m,Aa n]) =
  (LQ (Ac (bif bif decide (n>=0) then decide (n<(↑m.Procs.length:Int)) else false then n != m.Claim else false)) (Ac b)):=by kernel_rfl
theorem Ab9 (b:Bool)(a:Int)(l:List Int):(fc Bx MS Tryz.f140 [] (Ac b)).goal (St.init [] [Aa a,Ad false l]) =
  (Aq (fc Bx MS Tryz.f140 [] (Ac b)) [1,0,1,0] (NQ a l (0:Int))):=by kernel_rfl
theorem Ya (b:Bool)(a:Int)(l:List Int):(fc Bx KV Tryz.f140 [] (Ac b)).goal (St.init [] [Aa a,Ad true l]) =
  (Aq (fc Bx KV Tryz.f140 [] (Ac b)) [1,0,1,0] (Lt a l (0:Int))):=by kernel_rfl
theorem AcD (b:Bool)(m:D.Model)(a:Int)(v:D.Var):(fc Bx Jg Tryz.f141 [] (Ac b)).goal (St.init [] [tpM m,Aa a,.agg (BN v)]) =
  (BB (bif bif bif bif decide (v.Scope<0) then true else decide (v.Scope > 2) then true else decide (v.Slot<0) then true else decide (v.Slot > 128) then true else decide ((↑v.Dims.length:Int) > 4)) (LQ (Ac false) (Ac b)) (BB (v.Scope==2) (∃ (y:Bool),VC 140 [Aa a,VV.sl false 1 1 fun(i:Nat)=>List.take 1 (List.drop (i*1) [Aa v.Who])] (Ac y)/\∃ (y_1:Bool),((true&&(!y)==false)=true->VC 144 [tpM m,Aa v.Type_] (Ac y_1))/\BB (bif !y then true else !y_1) (LQ (Ac false) (Ac b)) (Aq (fc Bx Jg Tryz.f141 [] (Ac b)) [1,1,1,0,1,0] (Ma a v (0:Int)))) (BB (bif v.Who != (-1:Int) then true else v.Type_ != (-1:Int)) (LQ (Ac false) (Ac b)) (Aq (fc Bx Jg Tryz.f141 [] (Ac b)) [1,1,1,0,1,0] (Ma a v (0:Int)))))):=by kernel_rfl
theorem Abo (r:Int)(op:Int):(fc Bx A5 Tryz.f139 [] (Aa r)).goal (St.init [] [Aa op]) =
  (BB (op==1) (BB (op==1) (LQ (Aa 0) (Aa r)) (BB (op==24) (LQ (Aa 3) (Aa r)) (BB (bif decide (op>=6) then decide (op<=23) else false) (LQ (Aa 2) (Aa r)) (LQ (Aa 1) (Aa r))))) (BB (op==2) (BB (op==2) (LQ (Aa 0) (Aa r)) (BB (op==24) (LQ (Aa 3) (Aa r)) (BB (bif decide (op>=6) then decide (op<=23) else false) (LQ (Aa 2) (Aa r)) (LQ (Aa 1) (Aa r))))) (BB (op==31) (BB (op==31) (LQ (Aa 0) (Aa r)) (BB (op==24) (LQ (Aa 3) (Aa r)) (BB (bif decide (op>=6) then decide (op<=23) else false) (LQ (Aa 2) (Aa r)) (LQ (Aa 1) (Aa r))))) (BB (op==32) (BB (op==32) (LQ (Aa 0) (Aa r)) (BB (op==24) (LQ (Aa 3) (Aa r)) (BB (bif decide (op>=6) then decide (op<=23) else false) (LQ (Aa 2) (Aa r)) (LQ (Aa 1) (Aa r))))) (BB (op==33) (BB (op==33) (LQ (Aa 0) (Aa r)) (BB (op==24) (LQ (Aa 3) (Aa r)) (BB (bif decide (op>=6) then decide (op<=23) else false) (LQ (Aa 2) (Aa r)) (LQ (Aa 1) (Aa r))))) (BB (op==34) (BB (op==34) (LQ (Aa 0) (Aa r)) (BB (op==24) (LQ (Aa 3) (Aa r)) (BB (bif decide (op>=6) then decide (op<=23) else false) (LQ (Aa 2) (Aa r)) (LQ (Aa 1) (Aa r))))) (BB (op==35) (BB (op==35) (LQ (Aa 0) (Aa r)) (BB (op==24) (LQ (Aa 3) (Aa r)) (BB (bif decide (op>=6) then decide (op<=23) else false) (LQ (Aa 2) (Aa r)) (LQ (Aa 1) (Aa r))))) (BB (op==39) (LQ (Aa 0) (Aa r)) (BB (op==24) (LQ (Aa 3) (Aa r)) (BB (bif decide (op>=6) then decide (op<=23) else false) (LQ (Aa 2) (Aa r)) (LQ (Aa 1) (Aa r)))))))))))):=by kernel_rfl
theorem UA (b:Bool)(m:D.Model)(a:Int)(args mt:List Int):(fc Bx Jk Tryz.f142 [] (Ac b)).goal (St.init [] [tpM m,Aa a,Ad true args,Ad true mt]) =
  (∃ (y:Bool),((true&&(bif bif decide ((↑args.length:Int)<1) then true else decide ((↑args.length:Int) > 8) then true else(↑mt.length:Int) != (↑args.length:Int))==false)=true->VC 140 [Aa a,Ad true args] (Ac y))/\BB (bif bif bif decide ((↑args.length:Int)<1) then true else decide ((↑args.length:Int) > 8) then true else(↑mt.length:Int) != (↑args.length:Int) then true else !y) (LQ (Ac false) (Ac b)) (Aq (fc Bx Jk Tryz.f142 [] (Ac b)) [1,1,0,1,0] (Jy m args mt (0:Int)))):=by kernel_rfl
theorem Afl (b:Bool)(m:D.Model)(a:Int):(fc Bx HI Tryz.f100 [] (Ac b)).goal (St.init [] [tpM m,Aa a]) =
  (inX a m.Exprs.length/\BB (bif decide ((m.Exprs.getD a.toNat default).Op<1) then true else decide ((m.Exprs.getD a.toNat default).Op > 39)) (LQ (Ac false) (Ac b)) (Aq (fc Bx HI Tryz.f100 [] (Ac b)) [1,1,1,0,1,0] (Ff m a (m.Exprs.getD a.toNat default) (0:Int)))):=by kernel_rfl
theorem Xn (b:Bool)(m:D.Model)(x:D.Expr):(fc Bx A5 Tryz.f143 [] (Ac b)).goal (St.init [] [tpM m,.agg (AE x)]) =
  (∃ (y:Bool),((true&&(bif decide (x.N<0) then true else decide (x.N>=1073741824))==false)=true->VC 144 [tpM m,Aa x.N] (Ac y))/\BB (bif bif bif decide (x.N<0) then true else decide (x.N>=1073741824) then true else !y then true else decide ((↑x.Args.length:Int)<1)) (LQ (Ac false) (Ac b)) (inX x.N m.Procs.length/\∃ (y:Bool),VC 140 [Aa (↑(m.Procs.getD x.N.toNat default).Locs.length:Int),Ad true x.Args] (Ac y)/\LQ (Ac y) (Ac b))):=by kernel_rfl
theorem Acu (r:List (List D.Trans))(l:D.Loc):(fc Bx A5 Tryz.f102 [] (AW true r)).goal (St.init [] [.agg (Bf l)]) =
  ((1+l.Esc.length)*24<=140737488355328/\(∀ (i:Nat),i<l.Esc.length->((fun(i:Nat)=>[As true (l.Esc.getD i [])]) i).all VV.mem1=true)/\LQ (VV.sl true (1+l.Esc.length) 1 fun(i:Nat)=>bif i.blt 1 then(fun(i:Nat)=>List.take 1 (List.drop (i*1) [As true l.Out])) i else[As true (l.Esc.getD (i - 1) [])]) (AW true r)):=by kernel_rfl
theorem AbP (b:Bool)(p:D.Proc):(fc Bx A5 Tryz.f59 [] (Ac b)).goal (St.init [] [.agg (AO p)]) =
  (∃ (y:Int),((true&&(bif decide ((↑p.Frame.length:Int)<=128) then(↑p.Init.length:Int)==(↑p.Frame.length:Int) else false)==true)=true->VC 98 [Az true p.Frame,Ad true p.Init] (Aa y))/\LQ (Ac (bif bif bif bif bif bif bif bif decide ((↑p.Frame.length:Int)<=128) then(↑p.Init.length:Int)==(↑p.Frame.length:Int) else false then decide (y<0) else false then decide (p.Params>=0) else false then decide (p.Params<=(↑p.Frame.length:Int)) else false then decide (p.Active>=0) else false then decide (p.Active<=16) else false then decide (p.Prio>=1) else false then decide (p.Prio<=255) else false)) (Ac b)):=by kernel_rfl
theorem AbN (b:Bool)(p:D.Proc):(fc Bx Fv Tryz.f60 [] (Ac b)).goal (St.init [] [.agg (AO p)]) =
  (BB (bif bif bif bif bif decide ((↑p.Locs.length:Int)<1) then true else decide ((↑p.Locs.length:Int) > 256) then true else decide (p.Start<0) then true else decide (p.Start>=(↑p.Locs.length:Int)) then true else decide (p.Final<0) then true else decide (p.Final>=(↑p.Locs.length:Int))) (LQ (Ac false) (Ac b)) (Aq (fc Bx Fv Tryz.f60 [] (Ac b)) [1,1,1,1,0,1,0] (Lp p (0:Int) (0:Int)))):=by kernel_rfl
theorem UZ (b:Bool)(p:D.Proc):(fc Bx Jl Tryz.f61 [] (Ac b)).goal (St.init [] [.agg (AO p)]) =
  (BB (bif bif bif decide ((↑p.Frame.length:Int) > 0) then true else decide (p.Params > 0) then true else decide (p.Active > 0) then true else p.Provided != (-1:Int)) (LQ (Ac false) (Ac b)) (Aq (fc Bx Jl Tryz.f61 [] (Ac b)) [1,1,0,1,0] (Jz p (0:Int)))):=by kernel_rfl
theorem Ab3 (b:Bool)(s:D.Stmt)(u v x:Bool):(fc Bx A5 Tryz.f160 [] (Ac b)).goal (St.init [] [.agg (Ar s),Ac u,Ac v,Ac x]) =
  (LQ (Ac (bif bif bif !u then true else IntKind.i64.wrap ((↑s.Args.length:Int)+(↑s.Match.length:Int))==0 then bif !v then true else s.N==0 else false then bif !x then true else s.Text.toList==(⟨#[]⟩:ByteArray).toList else false)) (Ac b)):=by kernel_rfl
theorem Abm (b:Bool)(m:D.Model)(a:Int):(fc Bx A5 Tryz.f159 [] (Ac b)).goal (St.init [] [tpM m,Aa a]) =
  (∃ (y:Bool),VC 140 [Aa (↑m.Exprs.length:Int),VV.sl false 1 1 fun(i:Nat)=>List.take 1 (List.drop (i*1) [Aa a])] (Ac y)/\LQ (Ac y) (Ac b)):=by kernel_rfl
theorem Vs (b:Bool)(m:D.Model)(a:Int):(fc Bx A5 Tryz.f161 [] (Ac b)).goal (St.init [] [tpM m,Aa a]) =
  (∃ (y:Bool),VC 159 [tpM m,Aa a] (Ac y)/\((true&&y==true)=true->inX a m.Exprs.length)/\((true&&(bif y then(m.Exprs.getD a.toNat default).Op==2 else false)==true)=true->inX a m.Exprs.length)/\LQ (Ac (bif bif y then(m.Exprs.getD a.toNat default).Op==2 else false then(m.Exprs.getD a.toNat default).V.Scope != 2 else false)) (Ac b)):=by kernel_rfl
theorem PS (b:Bool)(m:D.Model)(s:D.Stmt):(fc Bx A5 Tryz.f145 [] (Ac b)).goal (St.init [] [tpM m,.agg (Ar s)]) =
  (BB (s.Kind==1) (BB (s.Kind==1) (∃ (y:Bool),VC 159 [tpM m,Aa s.A] (Ac y)/\∃ (y_1:Bool),((true&&(bif y then s.B==(-1:Int) else false)==true)=true->VC 160 [VV.agg (Ar s),Ac true,Ac true,Ac true] (Ac y_1))/\LQ (Ac (bif bif y then s.B==(-1:Int) else false then y_1 else false)) (Ac b)) (BB (s.Kind==2) (∃ (y:Bool),VC 161 [tpM m,Aa s.A] (Ac y)/\∃ (y_1:Bool),((true&&y==true)=true->VC 159 [tpM m,Aa s.B] (Ac y_1))/\∃ (y_2:Bool),((true&&(bif y then y_1 else false)==true)=true->VC 160 [VV.agg (Ar s),Ac true,Ac true,Ac true] (Ac y_2))/\LQ (Ac (bif bif y then y_1 else false then y_2 else false)) (Ac b)) (BB (s.Kind==4) (∃ (y:Bool),((true&&(bif s.A==(-1:Int) then s.B==(-1:Int) else false)==true)=true->VC 140 [Aa (↑m.Exprs.length:Int),Ad true s.Args] (Ac y))/\LQ (Ac (bif bif bif bif bif s.A==(-1:Int) then s.B==(-1:Int) else false then y else false then(↑s.Match.length:Int)==0 else false then decide ((↑s.Text.size:Int)<=256) else false then s.N==0 else false)) (Ac b)) (BB (s.Kind==5) (∃ (y:Bool),VC 159 [tpM m,Aa s.A] (Ac y)/\∃ (y_1:Bool),((true&&(bif bif bif y then s.B==(-1:Int) else false then decide ((↑s.Args.length:Int)>=1) else false then decide ((↑s.Args.length:Int)<=8) else false)==true)=true->VC 140 [Aa (↑m.Exprs.length:Int),Ad true s.Args] (Ac y_1))/\LQ (Ac (bif bif bif bif bif bif bif y then s.B==(-1:Int) else false then decide ((↑s.Args.length:Int)>=1) else false then decide ((↑s.Args.length:Int)<=8) else false then y_1 else false then(↑s.Match.length:Int)==0 else false then bif s.N==0 then true else s.N==1 else false then s.Text.toList==(⟨#[]⟩:ByteArray).toList else false)) (Ac b)) (BB (s.Kind==6) (∃ (y:Bool),VC 159 [tpM m,Aa s.A] (Ac y)/\∃ (y_1:Bool),((true&&(bif y then s.B==(-1:Int) else false)==true)=true->VC 162 [tpM m,VV.agg (Ar s)] (Ac y_1))/\LQ (Ac (bif bif bif bif bif y then s.B==(-1:Int) else false then y_1 else false then decide (s.N>=0) else false then decide (s.N<=3) else false then s.Text.toList==(⟨#[]⟩:ByteArray).toList else false)) (Ac b)) (BB (s.Kind==7) (BB (s.Kind==7) (∃ (y:Bool),((true&&(bif s.A==(-1:Int) then s.B==(-1:Int) else false)==true)=true->VC 160 [VV.agg (Ar s),Ac true,Ac true,Ac true] (Ac y))/\LQ (Ac (bif bif s.A==(-1:Int) then s.B==(-1:Int) else false then y else false)) (Ac b)) (BB (s.Kind==9) (∃ (y:Bool),VC 161 [tpM m,Aa s.A] (Ac y)/\∃ (y_1:Bool),((true&&(bif bif bif y then s.B==(-1:Int) else false then decide (s.N>=0) else false then decide (s.N<(↑m.Shapes.length:Int)) else false)==true)=true->VC 160 [VV.agg (Ar s),Ac true,Ac false,Ac true] (Ac y_1))/\LQ (Ac (bif bif bif bif y then s.B==(-1:Int) else false then decide (s.N>=0) else false then decide (s.N<(↑m.Shapes.length:Int)) else false then y_1 else false)) (Ac b)) (LQ (Ac false) (Ac b)))) (BB (s.Kind==8) (∃ (y:Bool),((true&&(bif s.A==(-1:Int) then s.B==(-1:Int) else false)==true)=true->VC 160 [VV.agg (Ar s),Ac true,Ac true,Ac true] (Ac y))/\LQ (Ac (bif bif s.A==(-1:Int) then s.B==(-1:Int) else false then y else false)) (Ac b)) (BB (s.Kind==9) (∃ (y:Bool),VC 161 [tpM m,Aa s.A] (Ac y)/\∃ (y_1:Bool),((true&&(bif bif bif y then s.B==(-1:Int) else false then decide (s.N>=0) else false then decide (s.N<(↑m.Shapes.length:Int)) else false)==true)=true->VC 160 [VV.agg (Ar s),Ac true,Ac false,Ac true] (Ac y_1))/\LQ (Ac (bif bif bif bif y then s.B==(-1:Int) else false then decide (s.N>=0) else false then decide (s.N<(↑m.Shapes.length:Int)) else false then y_1 else false)) (Ac b)) (LQ (Ac false) (Ac b)))))))))) (BB (s.Kind==3) (∃ (y:Bool),VC 159 [tpM m,Aa s.A] (Ac y)/\∃ (y_1:Bool),((true&&(bif y then s.B==(-1:Int) else false)==true)=true->VC 160 [VV.agg (Ar s),Ac true,Ac true,Ac true] (Ac y_1))/\LQ (Ac (bif bif y then s.B==(-1:Int) else false then y_1 else false)) (Ac b)) (BB (s.Kind==2) (∃ (y:Bool),VC 161 [tpM m,Aa s.A] (Ac y)/\∃ (y_1:Bool),((true&&y==true)=true->VC 159 [tpM m,Aa s.B] (Ac y_1))/\∃ (y_2:Bool),((true&&(bif y then y_1 else false)==true)=true->VC 160 [VV.agg (Ar s),Ac true,Ac true,Ac true] (Ac y_2))/\LQ (Ac (bif bif y then y_1 else false then y_2 else false)) (Ac b)) (BB (s.Kind==4) (∃ (y:Bool),((true&&(bif s.A==(-1:Int) then s.B==(-1:Int) else false)==true)=true->VC 140 [Aa (↑m.Exprs.length:Int),Ad true s.Args] (Ac y))/\LQ (Ac (bif bif bif bif bif s.A==(-1:Int) then s.B==(-1:Int) else false then y else false then(↑s.Match.length:Int)==0 else false then decide ((↑s.Text.size:Int)<=256) else false then s.N==0 else false)) (Ac b)) (BB (s.Kind==5) (∃ (y:Bool),VC 159 [tpM m,Aa s.A] (Ac y)/\∃ (y_1:Bool),((true&&(bif bif bif y then s.B==(-1:Int) else false then decide ((↑s.Args.length:Int)>=1) else false then decide ((↑s.Args.length:Int)<=8) else false)==true)=true->VC 140 [Aa (↑m.Exprs.length:Int),Ad true s.Args] (Ac y_1))/\LQ (Ac (bif bif bif bif bif bif bif y then s.B==(-1:Int) else false then decide ((↑s.Args.length:Int)>=1) else false then decide ((↑s.Args.length:Int)<=8) else false then y_1 else false then(↑s.Match.length:Int)==0 else false then bif s.N==0 then true else s.N==1 else false then s.Text.toList==(⟨#[]⟩:ByteArray).toList else false)) (Ac b)) (BB (s.Kind==6) (∃ (y:Bool),VC 159 [tpM m,Aa s.A] (Ac y)/\∃ (y_1:Bool),((true&&(bif y then s.B==(-1:Int) else false)==true)=true->VC 162 [tpM m,VV.agg (Ar s)] (Ac y_1))/\LQ (Ac (bif bif bif bif bif y then s.B==(-1:Int) else false then y_1 else false then decide (s.N>=0) else false then decide (s.N<=3) else false then s.Text.toList==(⟨#[]⟩:ByteArray).toList else false)) (Ac b)) (BB (s.Kind==7) (BB (s.Kind==7) (∃ (y:Bool),((true&&(bif s.A==(-1:Int) then s.B==(-1:Int) else false)==true)=true->VC 160 [VV.agg (Ar s),Ac true,Ac true,Ac true] (Ac y))/\LQ (Ac (bif bif s.A==(-1:Int) then s.B==(-1:Int) else false then y else false)) (Ac b)) (BB (s.Kind==9) (∃ (y:Bool),VC 161 [tpM m,Aa s.A] (Ac y)/\∃ (y_1:Bool),((true&&(bif bif bif y then s.B==(-1:Int) else false then decide (s.N>=0) else false then decide (s.N<(↑m.Shapes.length:Int)) else false)==true)=true->VC 160 [VV.agg (Ar s),Ac true,Ac false,Ac true] (Ac y_1))/\LQ (Ac (bif bif bif bif y then s.B==(-1:Int) else false then decide (s.N>=0) else false then decide (s.N<(↑m.Shapes.length:Int)) else false then y_1 else false)) (Ac b)) (LQ (Ac false) (Ac b)))) (BB (s.Kind==8) (∃ (y:Bool),((true&&(bif s.A==(-1:Int) then s.B==(-1:Int) else false)==true)=true->VC 160 [VV.agg (Ar s),Ac true,Ac true,Ac true] (Ac y))/\LQ (Ac (bif bif s.A==(-1:Int) then s.B==(-1:Int) else false then y else false)) (Ac b)) (BB (s.Kind==9) (∃ (y:Bool),VC 161 [tpM m,Aa s.A] (Ac y)/\∃ (y_1:Bool),((true&&(bif bif bif y then s.B==(-1:Int) else false then decide (s.N>=0) else false then decide (s.N<(↑m.Shapes.length:Int)) else false)==true)=true->VC 160 [VV.agg (Ar s),Ac true,Ac false,Ac true] (Ac y_1))/\LQ (Ac (bif bif bif bif y then s.B==(-1:Int) else false then decide (s.N>=0) else false then decide (s.N<(↑m.Shapes.length:Int)) else false then y_1 else false)) (Ac b)) (LQ (Ac false) (Ac b))))))))))):=by kernel_rfl
theorem ZK (b:Bool)(m:D.Model)(s:D.Stmt):(fc Bx MF Tryz.f162 [] (Ac b)).goal (St.init [] [tpM m,.agg (Ar s)]) =
  (∃ (y:Bool),VC 142 [tpM m,Aa (↑m.Exprs.length:Int),Ad true s.Args,Ad true s.Match] (Ac y)/\BB (!y) (LQ (Ac false) (Ac b)) (Aq (fc Bx MF Tryz.f162 [] (Ac b)) [1,1,0,1,0] (ND m s (0:Int)))):=by kernel_rfl
theorem AcF (b:Bool)(m:D.Model)(i:Int)(list:List Int)(run:Int):(fc Bx Jh Tryz.f104 [] (Ac b)).goal (St.init [] [tpM m,Aa i,Ad false list,Aa run]) =
  (Aq (fc Bx Jh Tryz.f104 [] (Ac b)) [1] (YB m i list run)):=by kernel_rfl
theorem ZS (r:Int)(m:D.Model)(i:Int)(v:D.Var):(fc Bx A5 Tryz.f147 [] (Aa r)).goal (St.init [] [tpM m,Aa i,.agg (BN v)]) =
  (BB (v.Scope==0) (LQ (Aa (↑m.Globals.length:Int)) (Aa r)) (BB (v.Scope==1) (inX i m.Procs.length/\LQ (Aa (↑(m.Procs.getD i.toNat default).Frame.length:Int)) (Aa r)) (inX v.Type_ m.Procs.length/\LQ (Aa (↑(m.Procs.getD v.Type_.toNat default).Frame.length:Int)) (Aa r)))):=by kernel_rfl
theorem AfZ (b:Bool)(m:D.Model)(i:Int)(s:D.Stmt):(fc Bx A5 Tryz.f103 [] (Ac b)).goal (St.init [] [tpM m,Aa i,.agg (Ar s)]) =
  (∃ (y:Bool),VC 145 [tpM m,VV.agg (Ar s)] (Ac y)/\BB (bif !y then true else bif bif bif bif i==m.Claim then s.Kind != 1 else false then s.Kind != 3 else false then s.Kind != 7 else false then s.Kind != 8 else false) (LQ (Ac false) (Ac b)) (s.Args.length*8<=140737488355328/\(∀ (i:Nat),i<s.Args.length->(AJ s.Args i).all VV.mem1=true)/\BB (decide (s.A>=0)) ((s.Args.length+1)*8<=140737488355328/\BB (decide (s.B>=0)) ((s.Args.length+1+1)*8<=140737488355328/\BB (s.Kind==1) (∃ (y:Bool),VC 104 [tpM m,Aa i,VV.sl false (s.Args.length+1+1) 1 fun(i:Nat)=>bif i.blt (s.Args.length+1) then(fun(i:Nat)=>bif i.blt s.Args.length then[Aa (s.Args.getD i 0)] else(fun(i:Nat)=>List.take 1 (List.drop (i*1) [Aa s.A])) (i - s.Args.length)) i else(fun(i:Nat)=>List.take 1 (List.drop (i*1) [Aa s.B])) (i - (s.Args.length+1)),Aa s.A] (Ac y)/\LQ (Ac y) (Ac b)) (BB (s.Kind==2) (∃ (y:Bool),VC 104 [tpM m,Aa i,VV.sl false (s.Args.length+1+1) 1 fun(i:Nat)=>bif i.blt (s.Args.length+1) then(fun(i:Nat)=>bif i.blt s.Args.length then[Aa (s.Args.getD i 0)] else(fun(i:Nat)=>List.take 1 (List.drop (i*1) [Aa s.A])) (i - s.Args.length)) i else(fun(i:Nat)=>List.take 1 (List.drop (i*1) [Aa s.B])) (i - (s.Args.length+1)),Aa s.B] (Ac y)/\LQ (Ac y) (Ac b)) (∃ (y:Bool),VC 104 [tpM m,Aa i,VV.sl false (s.Args.length+1+1) 1 fun(i:Nat)=>bif i.blt (s.Args.length+1) then(fun(i:Nat)=>bif i.blt s.Args.length then[Aa (s.Args.getD i 0)] else(fun(i:Nat)=>List.take 1 (List.drop (i*1) [Aa s.A])) (i - s.Args.length)) i else(fun(i:Nat)=>List.take 1 (List.drop (i*1) [Aa s.B])) (i - (s.Args.length+1)),Aa (-1)] (Ac y)/\LQ (Ac y) (Ac b)))) (BB (s.Kind==1) (∃ (y:Bool),VC 104 [tpM m,Aa i,VV.sl false (s.Args.length+1) 1 fun(i:Nat)=>bif i.blt s.Args.length then[Aa (s.Args.getD i 0)] else(fun(i:Nat)=>List.take 1 (List.drop (i*1) [Aa s.A])) (i - s.Args.length),Aa s.A] (Ac y)/\LQ (Ac y) (Ac b)) (BB (s.Kind==2) (∃ (y:Bool),VC 104 [tpM m,Aa i,VV.sl false (s.Args.length+1) 1 fun(i:Nat)=>bif i.blt s.Args.length then[Aa (s.Args.getD i 0)] else(fun(i:Nat)=>List.take 1 (List.drop (i*1) [Aa s.A])) (i - s.Args.length),Aa s.B] (Ac y)/\LQ (Ac y) (Ac b)) (∃ (y:Bool),VC 104 [tpM m,Aa i,VV.sl false (s.Args.length+1) 1 fun(i:Nat)=>bif i.blt s.Args.length then[Aa (s.Args.getD i 0)] else(fun(i:Nat)=>List.take 1 (List.drop (i*1) [Aa s.A])) (i - s.Args.length),Aa (-1)] (Ac y)/\LQ (Ac y) (Ac b))))) (BB (decide (s.B>=0)) ((s.Args.length+1)*8<=140737488355328/\BB (s.Kind==1) (∃ (y:Bool),VC 104 [tpM m,Aa i,VV.sl false (s.Args.length+1) 1 fun(i:Nat)=>bif i.blt s.Args.length then[Aa (s.Args.getD i 0)] else(fun(i:Nat)=>List.take 1 (List.drop (i*1) [Aa s.B])) (i - s.Args.length),Aa s.A] (Ac y)/\LQ (Ac y) (Ac b)) (BB (s.Kind==2) (∃ (y:Bool),VC 104 [tpM m,Aa i,VV.sl false (s.Args.length+1) 1 fun(i:Nat)=>bif i.blt s.Args.length then[Aa (s.Args.getD i 0)] else(fun(i:Nat)=>List.take 1 (List.drop (i*1) [Aa s.B])) (i - s.Args.length),Aa s.B] (Ac y)/\LQ (Ac y) (Ac b)) (∃ (y:Bool),VC 104 [tpM m,Aa i,VV.sl false (s.Args.length+1) 1 fun(i:Nat)=>bif i.blt s.Args.length then[Aa (s.Args.getD i 0)] else(fun(i:Nat)=>List.take 1 (List.drop (i*1) [Aa s.B])) (i - s.Args.length),Aa (-1)] (Ac y)/\LQ (Ac y) (Ac b)))) (BB (s.Kind==1) (∃ (y:Bool),VC 104 [tpM m,Aa i,Ad false s.Args,Aa s.A] (Ac y)/\LQ (Ac y) (Ac b)) (BB (s.Kind==2) (∃ (y:Bool),VC 104 [tpM m,Aa i,Ad false s.Args,Aa s.B] (Ac y)/\LQ (Ac y) (Ac b)) (∃ (y:Bool),VC 104 [tpM m,Aa i,Ad false s.Args,Aa (-1)] (Ac y)/\LQ (Ac y) (Ac b))))))):=by kernel_rfl
theorem AdW (b:Bool)(m:D.Model)(i:Int):(fc Bx GN Tryz.f62 [] (Ac b)).goal (St.init [] [tpM m,Aa i]) =
  (inX i m.Procs.length/\Aq (fc Bx GN Tryz.f62 [] (Ac b)) [1,1,0,1,0] (Lm m i (m.Procs.getD i.toNat default) (0:Int))):=by kernel_rfl
theorem Vv (r e:Int)(m:D.Model):(fc Bx Dk Tryz.f58 [] (.tup [Aa r,Aa e])).goal (St.init [] [tpM m]) =
  (BB (bif decide ((↑m.Globals.length:Int) > 128) then true else(↑m.Init.length:Int) != (↑m.Globals.length:Int)) (LQ (VV.tup [Aa 1,Aa (-1)]) (VV.tup [Aa r,Aa e])) (∃ (y:Int),VC 98 [Az true m.Globals,Ad true m.Init] (Aa y)/\BB (decide (y>=0)) (LQ (VV.tup [Aa 1,Aa y]) (VV.tup [Aa r,Aa e])) (BB (bif decide ((↑m.Shapes.length:Int) > 32) then true else decide ((↑m.Chans.length:Int) > 32)) (LQ (VV.tup [Aa 2,Aa (-1)]) (VV.tup [Aa r,Aa e])) (Aq (fc Bx Dk Tryz.f58 [] (VV.tup [Aa r,Aa e])) [1,1,1,1,1,0,1,0] (RG m (0:Int)))))):=by kernel_rfl
theorem Afa (r:List Int)(x:D.Expr):(fc Bx GO Tryz.f101 [] (Ad true r)).goal (St.init [] [.agg (AE x)]) =
  (∃ (y:Int),VC 139 [Aa x.Op] (Aa y)/\((0:Int)<=y/\y<=(↑3:Int))/\y.toNat*8<=140737488355328/\BB (bif x.Op==30 then true else x.Op==39) ((y.toNat+x.Args.length)*8<=140737488355328/\(∀ (i:Nat),i<x.Args.length->(AJ x.Args i).all VV.mem1=true)/\BB (x.Op==2) (BB (x.V.Scope==2) ((y.toNat+x.Args.length+1)*8<=140737488355328/\Aq (fc Bx GO Tryz.f101 [] (Ad true r)) [1,1,1,0,1,0,1,1,0] (Av [(3,VV.ow 0 0 (y.toNat+x.Args.length+1)),(45,BK true x.V.Dims),(46,Aa (↑x.V.Dims.length:Int)),(47,Aa 0)] [Ob.arr true 0 (y.toNat+x.Args.length+1) 1 fun(i:Nat)=>bif i.blt (y.toNat+x.Args.length) then(fun(i:Nat)=>bif i.blt y.toNat then(fun(i:Nat)=>List.take 1 (List.drop (i*1) [Aa x.A,Aa x.B,Aa x.C])) i else[Aa (x.Args.getD (i - y.toNat) 0)]) i else(fun(i:Nat)=>List.take 1 (List.drop (i*1) [Aa x.V.Who])) (i - (y.toNat+x.Args.length))])) (Aq (fc Bx GO Tryz.f101 [] (Ad true r)) [1,1,1,0,1,0,1,1,0] (Av [(3,VV.ow 0 0 (y.toNat+x.Args.length)),(45,BK true x.V.Dims),(46,Aa (↑x.V.Dims.length:Int)),(47,Aa 0)] [Ob.arr true 0 (y.toNat+x.Args.length) 1 fun(i:Nat)=>bif i.blt y.toNat then(fun(i:Nat)=>List.take 1 (List.drop (i*1) [Aa x.A,Aa x.B,Aa x.C])) i else[Aa (x.Args.getD (i - y.toNat) 0)]]))) (LQ (VV.sl true (y.toNat+x.Args.length) 1 fun(i:Nat)=>bif i.blt y.toNat then(fun(i:Nat)=>List.take 1 (List.drop (i*1) [Aa x.A,Aa x.B,Aa x.C])) i else[Aa (x.Args.getD (i - y.toNat) 0)]) (Ad true r))) (BB (x.Op==2) (BB (x.V.Scope==2) ((y.toNat+1)*8<=140737488355328/\Aq (fc Bx GO Tryz.f101 [] (Ad true r)) [1,1,1,0,1,0,1,1,0] (Av [(3,VV.ow 0 0 (y.toNat+1)),(45,BK true x.V.Dims),(46,Aa (↑x.V.Dims.length:Int)),(47,Aa 0)] [Ob.arr true 0 (y.toNat+1) 1 fun(i:Nat)=>bif i.blt y.toNat then(fun(i:Nat)=>List.take 1 (List.drop (i*1) [Aa x.A,Aa x.B,Aa x.C])) i else(fun(i:Nat)=>List.take 1 (List.drop (i*1) [Aa x.V.Who])) (i - y.toNat)])) (Aq (fc Bx GO Tryz.f101 [] (Ad true r)) [1,1,1,0,1,0,1,1,0] (Av [(3,VV.ow 0 0 y.toNat),(45,BK true x.V.Dims),(46,Aa (↑x.V.Dims.length:Int)),(47,Aa 0)] [Ob.arr true 0 y.toNat 1 fun(i:Nat)=>List.take 1 (List.drop (i*1) [Aa x.A,Aa x.B,Aa x.C])]))) (LQ (VV.sl true y.toNat 1 fun(i:Nat)=>List.take 1 (List.drop (i*1) [Aa x.A,Aa x.B,Aa x.C])) (Ad true r)))):=by kernel_rfl
theorem Ab6 (r e f:Int)(m:D.Model):(fc Bx HJ Tryz.f28 [] (.tup [Aa r,Aa e,Aa f])).goal (St.init [] [.agg (Af m)]) =
  (∃ (y:Int × Int),VC 58 [tpM m] (VV.tup [Aa y.fst,Aa y.snd])/\BB (decide (y.fst > 0)) (LQ (VV.tup [Aa 40,Aa y.fst,Aa y.snd]) (VV.tup [Aa r,Aa e,Aa f])) (Aq (fc Bx HJ Tryz.f28 [] (VV.tup [Aa r,Aa e,Aa f])) [1,1,1,1,0,1,0] (Ls m (0:Int) (0:Int)))):=by kernel_rfl
end Go.Proofs.YtlhajmkjfcbhnaaGreat
namespace Go.Proofs.YtlhajmkjfcbhnaaGreat
open Go.RowKit
set_option maxRecDepth 100000
theorem Wi (r:Int)(n:Int)(v:D.Var)(k:Int)(J:St->Prop):((fc Bx MJ Tryz.f146 [] (Aa r)).loop [1,1,1,0,1,0] J).goal (NM n v k) =
  (BB (decide (k<(↑v.Dims.length:Int))) (inX k v.Dims.length/\BB (bif bif bif decide ((v.Dims.getD k.toNat default).Len<1) then true else decide (IntKind.i64.wrap ((v.Dims.getD k.toNat default).Len - (1:Int)) > 1073741824) then true else decide ((v.Dims.getD k.toNat default).Stride<0) then true else decide ((v.Dims.getD k.toNat default).Stride > 1073741824)) (LQ (Aa 0) (Aa r)) (J (NM (IntKind.i64.wrap (n+IntKind.i64.wrap (IntKind.i64.wrap ((v.Dims.getD k.toNat default).Len - (1:Int))*(v.Dims.getD k.toNat default).Stride))) v (IntKind.i64.wrap (k+(1:Int)))))) (LQ (Aa n) (Aa r))):=by kernel_rfl
theorem Vo (r:Int)(t:List D.Type)(init:List Int)(k:Int)(J:St->Prop):((fc Bx MD Tryz.f98 [] (Aa r)).loop [1,0,1,0] J).goal (NB t init k) =
  (BB (decide (k<(↑t.length:Int))) (inX k t.length/\inX k init.length/\∃ (y:Bool),VC 117 [VV.agg (Bs (t.getD k.toNat default)),Aa (init.getD k.toNat 0)] (Ac y)/\BB (!y) (LQ (Aa k) (Aa r)) (J (NB t init (IntKind.i64.wrap (k+(1:Int)))))) (LQ (Aa (-1)) (Aa r))):=by kernel_rfl
theorem VH (b:Bool)(s:D.Shape)(k:Int)(J:St->Prop):((fc Bx MG Tryz.f99 [] (Ac b)).loop [1,1,0,1,0] J).goal (NE s k) =
  (BB (decide (k<(↑s.Fields.length:Int))) (inX k s.Fields.length/\∃ (y:Bool),VC 138 [VV.agg (Bs (s.Fields.getD k.toNat default))] (Ac y)/\BB (!y) (LQ (Ac false) (Ac b)) (J (NE s (IntKind.i64.wrap (k+(1:Int)))))) (LQ (Ac true) (Ac b))):=by kernel_rfl
theorem Yb (b:Bool)(a:Int)(l:List Int)(k:Int)(J:St->Prop):((fc Bx MS Tryz.f140 [] (Ac b)).loop [1,0,1,0] J).goal (NQ a l k) =
  (BB (decide (k<(↑l.length:Int))) (inX k l.length/\BB (bif decide (l.getD k.toNat 0<0) then true else decide (l.getD k.toNat 0>=a)) (LQ (Ac false) (Ac b)) (J (NQ a l (IntKind.i64.wrap (k+(1:Int)))))) (LQ (Ac true) (Ac b))):=by kernel_rfl
theorem U4 (b:Bool)(a:Int)(l:List Int)(k:Int)(J:St->Prop):((fc Bx KV Tryz.f140 [] (Ac b)).loop [1,0,1,0] J).goal (Lt a l k) =
  (BB (decide (k<(↑l.length:Int))) (inX k l.length/\BB (bif decide (l.getD k.toNat 0<0) then true else decide (l.getD k.toNat 0>=a)) (LQ (Ac false) (Ac b)) (J (Lt a l (IntKind.i64.wrap (k+(1:Int)))))) (LQ (Ac true) (Ac b))):=by kernel_rfl
theorem ZA (b:Bool)(a:Int)(v:D.Var)(k:Int)(J:St->Prop):((fc Bx Jg Tryz.f141 [] (Ac b)).loop [1,1,1,0,1,0] J).goal (Ma a v k) =
  (BB (decide (k<(↑v.Dims.length:Int))) (inX k v.Dims.length/\∃ (y:Bool),VC 140 [Aa a,VV.sl false 1 1 fun(i:Nat)=>List.take 1 (List.drop (i*1) [Aa (v.Dims.getD k.toNat default).I])] (Ac y)/\BB (bif bif bif bif !y then true else decide ((v.Dims.getD k.toNat default).Len<1) then true else decide ((v.Dims.getD k.toNat default).Len > 128) then true else decide ((v.Dims.getD k.toNat default).Stride<0) then true else decide ((v.Dims.getD k.toNat default).Stride > 128)) (LQ (Ac false) (Ac b)) (J (Ma a v (IntKind.i64.wrap (k+(1:Int)))))) (LQ (Ac true) (Ac b))):=by kernel_rfl
theorem Sb (b:Bool)(m:D.Model)(args mt:List Int)(k:Int)(J:St->Prop):((fc Bx Jk Tryz.f142 [] (Ac b)).loop [1,1,0,1,0] J).goal (Jy m args mt k) =
  (BB (decide (k<(↑mt.length:Int))) (inX k mt.length/\((true&&(bif decide (mt.getD k.toNat 0<(-1:Int)) then true else decide (mt.getD k.toNat 0 > 1))==false&&(mt.getD k.toNat 0==0)==true)=true->inX k args.length)/\((true&&(bif decide (mt.getD k.toNat 0<(-1:Int)) then true else decide (mt.getD k.toNat 0 > 1))==false&&(mt.getD k.toNat 0==0)==true)=true->inX (args.getD k.toNat 0) m.Exprs.length)/\BB (bif bif decide (mt.getD k.toNat 0<(-1:Int)) then true else decide (mt.getD k.toNat 0 > 1) then true else bif mt.getD k.toNat 0==0 then(m.Exprs.getD (args.getD k.toNat 0).toNat default).Op != 2 else false) (LQ (Ac false) (Ac b)) (J (Jy m args mt (IntKind.i64.wrap (k+(1:Int)))))) (LQ (Ac true) (Ac b))):=by kernel_rfl
theorem UQ (b:Bool)(m:D.Model)(a:Int)(x:D.Expr)(J:St->Prop):((fc Bx HI Tryz.f100 [] (Ac b)).loop [1,1,1,0,1,0] J).goal (Ff m a x 0) =
  (BB true (inX (0:Int) 3/\∃ (y:Int),VC 139 [Aa x.Op] (Aa y)/\∃ (y_1:Bool),((true&&decide ((0:Int)<y)==true)=true->VC 140 [Aa a,VV.sl true 1 1 fun(i:Nat)=>List.take 1 (List.drop (i*1) [Aa x.A])] (Ac y_1))/\∃ (y_2:Int),((true&&(bif decide ((0:Int)<y) then !y_1 else false)==false)=true->VC 139 [Aa x.Op] (Aa y_2))/\BB (bif bif decide ((0:Int)<y) then !y_1 else false then true else bif decide ((0:Int)>=y_2) then x.A != (-1:Int) else false) (LQ (Ac false) (Ac b)) (J (Ff m a x (IntKind.i64.wrap ((0:Int)+(1:Int)))))) (BB (x.Op==1) (∃ (y:Bool),VC 117 [VV.agg [Aa 32,Ac true],Aa x.N] (Ac y)/\LQ (Ac y) (Ac b)) (BB (x.Op==2) (∃ (y:Bool),VC 141 [tpM m,Aa a,VV.agg (BN x.V)] (Ac y)/\LQ (Ac y) (Ac b)) (BB (x.Op==30) (∃ (y:Bool),VC 142 [tpM m,Aa a,Ad true x.Args,Ad true x.Match] (Ac y)/\LQ (Ac (bif y then bif x.N==0 then true else x.N==1 else false)) (Ac b)) (BB (x.Op==38) (∃ (y:Bool),VC 143 [tpM m,VV.agg (AE x)] (Ac y)/\LQ (Ac y) (Ac b)) (BB (x.Op==39) (∃ (y:Bool),((true&&(bif decide (x.N>=0) then decide (x.N<1073741824) else false)==true)=true->VC 144 [tpM m,Aa x.N] (Ac y))/\((true&&(bif bif decide (x.N>=0) then decide (x.N<1073741824) else false then y else false)==true)=true->inX x.N m.Procs.length)/\∃ (y_1:Bool),((true&&(bif bif bif decide (x.N>=0) then decide (x.N<1073741824) else false then y else false then(↑x.Args.length:Int)==(m.Procs.getD x.N.toNat default).Params else false)==true)=true->VC 140 [Aa a,Ad true x.Args] (Ac y_1))/\LQ (Ac (bif bif bif bif decide (x.N>=0) then decide (x.N<1073741824) else false then y else false then(↑x.Args.length:Int)==(m.Procs.getD x.N.toNat default).Params else false then y_1 else false)) (Ac b)) (LQ (Ac true) (Ac b)))))))):=by kernel_rfl
theorem UP (b:Bool)(m:D.Model)(a:Int)(x:D.Expr)(J:St->Prop):((fc Bx HI Tryz.f100 [] (Ac b)).loop [1,1,1,0,1,0] J).goal (Ff m a x 1) =
  (BB true (inX (1:Int) 3/\∃ (y:Int),VC 139 [Aa x.Op] (Aa y)/\∃ (y_1:Bool),((true&&decide ((1:Int)<y)==true)=true->VC 140 [Aa a,VV.sl true 1 1 fun(i:Nat)=>List.take 1 (List.drop (i*1) [Aa x.B])] (Ac y_1))/\∃ (y_2:Int),((true&&(bif decide ((1:Int)<y) then !y_1 else false)==false)=true->VC 139 [Aa x.Op] (Aa y_2))/\BB (bif bif decide ((1:Int)<y) then !y_1 else false then true else bif decide ((1:Int)>=y_2) then x.B != (-1:Int) else false) (LQ (Ac false) (Ac b)) (J (Ff m a x (IntKind.i64.wrap ((1:Int)+(1:Int)))))) (BB (x.Op==1) (∃ (y:Bool),VC 117 [VV.agg [Aa 32,Ac true],Aa x.N] (Ac y)/\LQ (Ac y) (Ac b)) (BB (x.Op==2) (∃ (y:Bool),VC 141 [tpM m,Aa a,VV.agg (BN x.V)] (Ac y)/\LQ (Ac y) (Ac b)) (BB (x.Op==30) (∃ (y:Bool),VC 142 [tpM m,Aa a,Ad true x.Args,Ad true x.Match] (Ac y)/\LQ (Ac (bif y then bif x.N==0 then true else x.N==1 else false)) (Ac b)) (BB (x.Op==38) (∃ (y:Bool),VC 143 [tpM m,VV.agg (AE x)] (Ac y)/\LQ (Ac y) (Ac b)) (BB (x.Op==39) (∃ (y:Bool),((true&&(bif decide (x.N>=0) then decide (x.N<1073741824) else false)==true)=true->VC 144 [tpM m,Aa x.N] (Ac y))/\((true&&(bif bif decide (x.N>=0) then decide (x.N<1073741824) else false then y else false)==true)=true->inX x.N m.Procs.length)/\∃ (y_1:Bool),((true&&(bif bif bif decide (x.N>=0) then decide (x.N<1073741824) else false then y else false then(↑x.Args.length:Int)==(m.Procs.getD x.N.toNat default).Params else false)==true)=true->VC 140 [Aa a,Ad true x.Args] (Ac y_1))/\LQ (Ac (bif bif bif bif decide (x.N>=0) then decide (x.N<1073741824) else false then y else false then(↑x.Args.length:Int)==(m.Procs.getD x.N.toNat default).Params else false then y_1 else false)) (Ac b)) (LQ (Ac true) (Ac b)))))))):=by kernel_rfl
theorem UO (b:Bool)(m:D.Model)(a:Int)(x:D.Expr)(J:St->Prop):((fc Bx HI Tryz.f100 [] (Ac b)).loop [1,1,1,0,1,0] J).goal (Ff m a x 2) =
  (BB true (inX (2:Int) 3/\∃ (y:Int),VC 139 [Aa x.Op] (Aa y)/\∃ (y_1:Bool),((true&&decide ((2:Int)<y)==true)=true->VC 140 [Aa a,VV.sl true 1 1 fun(i:Nat)=>List.take 1 (List.drop (i*1) [Aa x.C])] (Ac y_1))/\∃ (y_2:Int),((true&&(bif decide ((2:Int)<y) then !y_1 else false)==false)=true->VC 139 [Aa x.Op] (Aa y_2))/\BB (bif bif decide ((2:Int)<y) then !y_1 else false then true else bif decide ((2:Int)>=y_2) then x.C != (-1:Int) else false) (LQ (Ac false) (Ac b)) (J (Ff m a x (IntKind.i64.wrap ((2:Int)+(1:Int)))))) (BB (x.Op==1) (∃ (y:Bool),VC 117 [VV.agg [Aa 32,Ac true],Aa x.N] (Ac y)/\LQ (Ac y) (Ac b)) (BB (x.Op==2) (∃ (y:Bool),VC 141 [tpM m,Aa a,VV.agg (BN x.V)] (Ac y)/\LQ (Ac y) (Ac b)) (BB (x.Op==30) (∃ (y:Bool),VC 142 [tpM m,Aa a,Ad true x.Args,Ad true x.Match] (Ac y)/\LQ (Ac (bif y then bif x.N==0 then true else x.N==1 else false)) (Ac b)) (BB (x.Op==38) (∃ (y:Bool),VC 143 [tpM m,VV.agg (AE x)] (Ac y)/\LQ (Ac y) (Ac b)) (BB (x.Op==39) (∃ (y:Bool),((true&&(bif decide (x.N>=0) then decide (x.N<1073741824) else false)==true)=true->VC 144 [tpM m,Aa x.N] (Ac y))/\((true&&(bif bif decide (x.N>=0) then decide (x.N<1073741824) else false then y else false)==true)=true->inX x.N m.Procs.length)/\∃ (y_1:Bool),((true&&(bif bif bif decide (x.N>=0) then decide (x.N<1073741824) else false then y else false then(↑x.Args.length:Int)==(m.Procs.getD x.N.toNat default).Params else false)==true)=true->VC 140 [Aa a,Ad true x.Args] (Ac y_1))/\LQ (Ac (bif bif bif bif decide (x.N>=0) then decide (x.N<1073741824) else false then y else false then(↑x.Args.length:Int)==(m.Procs.getD x.N.toNat default).Params else false then y_1 else false)) (Ac b)) (LQ (Ac true) (Ac b)))))))):=by kernel_rfl
theorem UN (b:Bool)(m:D.Model)(a:Int)(x:D.Expr)(J:St->Prop):((fc Bx HI Tryz.f100 [] (Ac b)).loop [1,1,1,0,1,0] J).goal (Ff m a x 3) =
  (BB false (inX (3:Int) 3/\False/\∃ (y:Int),VC 139 [Aa x.Op] (Aa y)/\((true&&decide ((3:Int)<y)==true)=true->False)/\∃ (y_1:Bool),((true&&decide ((3:Int)<y)==true)=true->VC 140 [Aa a,VV.dead] (Ac y_1))/\∃ (y_2:Int),((true&&(bif decide ((3:Int)<y) then !y_1 else false)==false)=true->VC 139 [Aa x.Op] (Aa y_2))/\((true&&(bif decide ((3:Int)<y) then !y_1 else false)==false&&decide ((3:Int)>=y_2)==true)=true->False)/\((true&&(bif decide ((3:Int)<y) then !y_1 else false)==false)=true->False)/\False/\False) (BB (x.Op==1) (∃ (y:Bool),VC 117 [VV.agg [Aa 32,Ac true],Aa x.N] (Ac y)/\LQ (Ac y) (Ac b)) (BB (x.Op==2) (∃ (y:Bool),VC 141 [tpM m,Aa a,VV.agg (BN x.V)] (Ac y)/\LQ (Ac y) (Ac b)) (BB (x.Op==30) (∃ (y:Bool),VC 142 [tpM m,Aa a,Ad true x.Args,Ad true x.Match] (Ac y)/\LQ (Ac (bif y then bif x.N==0 then true else x.N==1 else false)) (Ac b)) (BB (x.Op==38) (∃ (y:Bool),VC 143 [tpM m,VV.agg (AE x)] (Ac y)/\LQ (Ac y) (Ac b)) (BB (x.Op==39) (∃ (y:Bool),((true&&(bif decide (x.N>=0) then decide (x.N<1073741824) else false)==true)=true->VC 144 [tpM m,Aa x.N] (Ac y))/\((true&&(bif bif decide (x.N>=0) then decide (x.N<1073741824) else false then y else false)==true)=true->inX x.N m.Procs.length)/\∃ (y_1:Bool),((true&&(bif bif bif decide (x.N>=0) then decide (x.N<1073741824) else false then y else false then(↑x.Args.length:Int)==(m.Procs.getD x.N.toNat default).Params else false)==true)=true->VC 140 [Aa a,Ad true x.Args] (Ac y_1))/\LQ (Ac (bif bif bif bif decide (x.N>=0) then decide (x.N<1073741824) else false then y else false then(↑x.Args.length:Int)==(m.Procs.getD x.N.toNat default).Params else false then y_1 else false)) (Ac b)) (LQ (Ac true) (Ac b)))))))):=by kernel_rfl
theorem XL (b:Bool)(p:D.Proc)(many k:Int)(J:St->Prop):((fc Bx Fv Tryz.f60 [] (Ac b)).loop [1,1,1,1,0,1,0] J).goal (Lp p many k) =
  (BB (decide (k<(↑p.Locs.length:Int))) (inX k p.Locs.length/\BB (bif bif decide ((↑(p.Locs.getD k.toNat default).Esc.length:Int) > 8) then true else bif (p.Locs.getD k.toNat default).Dstep then(p.Locs.getD k.toNat default).Atomic else false then true else bif k==p.Final then decide (IntKind.i64.wrap ((↑(p.Locs.getD k.toNat default).Out.length:Int)+(↑(p.Locs.getD k.toNat default).Esc.length:Int)) > 0) else false) (LQ (Ac false) (Ac b)) (∃ (y:List (List D.Trans)),VC 102 [VV.agg (Bf (p.Locs.getD k.toNat default))] (AW true y)/\Aq ((fc Bx Fv Tryz.f60 [] (Ac b)).loop [1,1,1,1,0,1,0] J) [1,1,0,0,1,1,1,0] (Lo p many k y (0:Int)))) (LQ (Ac true) (Ac b))):=by kernel_rfl
theorem XK (b:Bool)(p:D.Proc)(many k:Int)(ws:List (List D.Trans))(j:Int)(J J2:St->Prop):(((fc Bx Fv Tryz.f60 [] (Ac b)).loop [1,1,1,1,0,1,0] J).loop [1,1,0,0,1,1,1,0] J2).goal (Lo p many k ws j) =
  (BB (decide (j<(↑ws.length:Int))) (inX j ws.length/\BB (bif decide (j > 0) then(↑(ws.getD j.toNat []).length:Int)==0 else false) (LQ (Ac false) (Ac b)) (BB (decide (IntKind.i64.wrap (many+(↑(ws.getD j.toNat []).length:Int)) > 1024)) (LQ (Ac false) (Ac b)) (Aq (((fc Bx Fv Tryz.f60 [] (Ac b)).loop [1,1,1,1,0,1,0] J).loop [1,1,0,0,1,1,1,0] J2) [1,1,0,0,1,1,1,1,1,0] (Ln p (IntKind.i64.wrap (many+(↑(ws.getD j.toNat []).length:Int))) k ws j (ws.getD j.toNat []) (0:Int))))) (J (Lp p many (IntKind.i64.wrap (k+(1:Int)))))):=by kernel_rfl
theorem XJ (b:Bool)(p:D.Proc)(many k:Int)(ws:List (List D.Trans))(j:Int)(w:List D.Trans)(h:Int)(J J2 J3:St->Prop):((((fc Bx Fv Tryz.f60 [] (Ac b)).loop [1,1,1,1,0,1,0] J).loop [1,1,0,0,1,1,1,0] J2).loop [1,1,0,0,1,1,1,1,1,0] J3).goal (Ln p many k ws j w h) =
  (BB (decide (h<(↑w.length:Int))) (inX h w.length/\BB (bif decide ((w.getD h.toNat default).To<0) then true else decide ((w.getD h.toNat default).To>=(↑p.Locs.length:Int))) (LQ (Ac false) (Ac b)) (J3 (Ln p many k ws j w (IntKind.i64.wrap (h+(1:Int)))))) (J2 (Lo p many k ws (IntKind.i64.wrap (j+(1:Int)))))):=by kernel_rfl
theorem Sr (b:Bool)(p:D.Proc)(k:Int)(J:St->Prop):((fc Bx Jl Tryz.f61 [] (Ac b)).loop [1,1,0,1,0] J).goal (Jz p k) =
  (BB (decide (k<(↑p.Locs.length:Int))) (inX k p.Locs.length/\BB (bif bif decide ((↑(p.Locs.getD k.toNat default).Esc.length:Int) > 0) then true else(p.Locs.getD k.toNat default).Atomic then true else(p.Locs.getD k.toNat default).Dstep) (LQ (Ac false) (Ac b)) (J (Jz p (IntKind.i64.wrap (k+(1:Int)))))) (LQ (Ac true) (Ac b))):=by kernel_rfl
theorem Vu (b:Bool)(m:D.Model)(s:D.Stmt)(k:Int)(J:St->Prop):((fc Bx MF Tryz.f162 [] (Ac b)).loop [1,1,0,1,0] J).goal (ND m s k) =
  (BB (decide (k<(↑s.Match.length:Int))) (inX k s.Match.length/\((true&&(s.Match.getD k.toNat 0==0)==true)=true->inX k s.Args.length)/\∃ (y:Bool),((true&&(s.Match.getD k.toNat 0==0)==true)=true->VC 161 [tpM m,Aa (s.Args.getD k.toNat 0)] (Ac y))/\BB (bif s.Match.getD k.toNat 0==0 then !y else false) (LQ (Ac false) (Ac b)) (J (ND m s (IntKind.i64.wrap (k+(1:Int)))))) (LQ (Ac true) (Ac b))):=by kernel_rfl
theorem ZD (b:Bool)(m:D.Model)(i:Int)(list:List Int)(run:Int)(J:St->Prop):((fc Bx Jh Tryz.f104 [] (Ac b)).first [1] 0 J).goal (YB m i list run) =
  (((0:Int)<=(↑m.Exprs.length:Int)/\(↑m.Exprs.length:Int)<=(↑m.Exprs.length:Int)/\(↑m.Exprs.length:Int)*(↑1:Int)<=140737488355328)/\list.length*8<=140737488355328/\(∀ (i:Nat),i<list.length->(AJ list i).all VV.mem1=true)/\BB ((0:Int)==(↑list.length:Int)) (LQ (Ac true) (Ac b)) (inX (0:Int) list.length/\inX (list.getD (Int.toNat (0:Int)) (0:Int)) (↑m.Exprs.length:Int).toNat/\BB false (J (Av [(0,tpM m),(1,Aa i),(2,Ad false list),(3,Aa run),(9,VV.ow 0 0 (↑m.Exprs.length:Int).toNat),(10,VV.ow 1 0 list.length),(11,Aa (IntKind.i64.wrap ((0:Int)+(1:Int))))] [Ob.arr true 0 (↑m.Exprs.length:Int).toNat 1 fun(_:Nat)=>(((fc Bx Jh Tryz.f104 [] (Ac b)).first [1] 0 J).T 4).zero,Ob.arr true 0 list.length 1 (AJ list)])) (inX (list.getD (Int.toNat (0:Int)) (0:Int)) (↑m.Exprs.length:Int).toNat/\inX (list.getD (Int.toNat (0:Int)) (0:Int)) m.Exprs.length/\BB (bif bif (m.Exprs.getD (list.getD (Int.toNat (0:Int)) (0:Int)).toNat default).Op==39 then list.getD (Int.toNat (0:Int)) (0:Int) != run else false then true else bif i==m.Claim then bif bif (m.Exprs.getD (list.getD (Int.toNat (0:Int)) (0:Int)).toNat default).Op==31 then true else(m.Exprs.getD (list.getD (Int.toNat (0:Int)) (0:Int)).toNat default).Op==39 then true else bif (m.Exprs.getD (list.getD (Int.toNat (0:Int)) (0:Int)).toNat default).Op==2 then(m.Exprs.getD (list.getD (Int.toNat (0:Int)) (0:Int)).toNat default).V.Scope==1 else false else false) (LQ (Ac false) (Ac b)) (BB ((m.Exprs.getD (list.getD (Int.toNat (0:Int)) (0:Int)).toNat default).Op==2) (∃ (y:Int),VC 146 [VV.agg (BN (m.Exprs.getD (list.getD (Int.toNat (0:Int)) (0:Int)).toNat default).V)] (Aa y)/\∃ (y_1:Int),VC 147 [tpM m,Aa i,VV.agg (BN (m.Exprs.getD (list.getD (Int.toNat (0:Int)) (0:Int)).toNat default).V)] (Aa y_1)/\BB (decide (y > y_1)) (LQ (Ac false) (Ac b)) (∃ (y:List Int),VC 101 [VV.agg (AE (m.Exprs.getD (list.getD (Int.toNat (0:Int)) (0:Int)).toNat default))] (Ad true y)/\(list.length+y.length)*8<=140737488355328/\(∀ (i:Nat),i<y.length->(AJ y i).all VV.mem1=true)/\J (Av [(0,tpM m),(1,Aa i),(2,Ad false list),(3,Aa run),(9,VV.ow 0 0 (↑m.Exprs.length:Int).toNat),(10,VV.ow 1 0 (list.length+y.length)),(11,Aa (IntKind.i64.wrap ((0:Int)+(1:Int))))] [Ob.arr true 0 (↑m.Exprs.length:Int).toNat 1 fun(j:Nat)=>bif j.beq (list.getD 0 0).toNat then[Ac true] else[Ac false],Ob.arr true 0 (list.length+y.length) 1 fun(i:Nat)=>bif i.blt list.length then AJ list i else AJ y (i - list.length)]))) (∃ (y:List Int),VC 101 [VV.agg (AE (m.Exprs.getD (list.getD (Int.toNat (0:Int)) (0:Int)).toNat default))] (Ad true y)/\(list.length+y.length)*8<=140737488355328/\(∀ (i:Nat),i<y.length->(AJ y i).all VV.mem1=true)/\J (Av [(0,tpM m),(1,Aa i),(2,Ad false list),(3,Aa run),(9,VV.ow 0 0 (↑m.Exprs.length:Int).toNat),(10,VV.ow 1 0 (list.length+y.length)),(11,Aa (IntKind.i64.wrap ((0:Int)+(1:Int))))] [Ob.arr true 0 (↑m.Exprs.length:Int).toNat 1 fun(j:Nat)=>bif j.beq (list.getD 0 0).toNat then[Ac true] else[Ac false],Ob.arr true 0 (list.length+y.length) 1 fun(i:Nat)=>bif i.blt list.length then AJ list i else AJ y (i - list.length)])))))):=by kernel_rfl
theorem ZC (b:Bool)(m:D.Model)(i:Int)(list:List Int)(run:Int)(seen:List Bool)(todo:List Int)(k:Int)(J:St->Prop):((fc Bx Jh Tryz.f104 [] (Ac b)).pass [1] 0 J).goal (Oq m i list run seen todo k) =
  (BB (k==(↑todo.length:Int)) (LQ (Ac true) (Ac b)) (inX k todo.length/\inX (todo.getD k.toNat 0) seen.length/\BB (seen.getD (todo.getD k.toNat 0).toNat false) (J (Oq m i list run seen todo (IntKind.i64.wrap (k+(1:Int))))) (inX (todo.getD k.toNat 0) seen.length/\inX (todo.getD k.toNat 0) m.Exprs.length/\BB (bif bif (m.Exprs.getD (todo.getD k.toNat 0).toNat default).Op==39 then todo.getD k.toNat 0 != run else false then true else bif i==m.Claim then bif bif (m.Exprs.getD (todo.getD k.toNat 0).toNat default).Op==31 then true else(m.Exprs.getD (todo.getD k.toNat 0).toNat default).Op==39 then true else bif (m.Exprs.getD (todo.getD k.toNat 0).toNat default).Op==2 then(m.Exprs.getD (todo.getD k.toNat 0).toNat default).V.Scope==1 else false else false) (LQ (Ac false) (Ac b)) (BB ((m.Exprs.getD (todo.getD k.toNat 0).toNat default).Op==2) (∃ (y:Int),VC 146 [VV.agg (BN (m.Exprs.getD (todo.getD k.toNat 0).toNat default).V)] (Aa y)/\∃ (y_1:Int),VC 147 [tpM m,Aa i,VV.agg (BN (m.Exprs.getD (todo.getD k.toNat 0).toNat default).V)] (Aa y_1)/\BB (decide (y > y_1)) (LQ (Ac false) (Ac b)) (∃ (y:List Int),VC 101 [VV.agg (AE (m.Exprs.getD (todo.getD k.toNat 0).toNat default))] (Ad true y)/\(todo.length+y.length)*8<=140737488355328/\(∀ (i:Nat),i<y.length->(AJ y i).all VV.mem1=true)/\J (Av [(0,tpM m),(1,Aa i),(2,Ad false list),(3,Aa run),(9,VV.ow 0 0 seen.length),(10,VV.ow 1 0 (todo.length+y.length)),(11,Aa (IntKind.i64.wrap (k+(1:Int))))] [Ob.arr true 0 seen.length 1 fun(j:Nat)=>bif j.beq (todo.getD k.toNat 0).toNat then[Ac true] else[Ac (seen.getD j false)],Ob.arr true 0 (todo.length+y.length) 1 fun(i:Nat)=>bif i.blt todo.length then AJ todo i else AJ y (i - todo.length)]))) (∃ (y:List Int),VC 101 [VV.agg (AE (m.Exprs.getD (todo.getD k.toNat 0).toNat default))] (Ad true y)/\(todo.length+y.length)*8<=140737488355328/\(∀ (i:Nat),i<y.length->(AJ y i).all VV.mem1=true)/\J (Av [(0,tpM m),(1,Aa i),(2,Ad false list),(3,Aa run),(9,VV.ow 0 0 seen.length),(10,VV.ow 1 0 (todo.length+y.length)),(11,Aa (IntKind.i64.wrap (k+(1:Int))))] [Ob.arr true 0 seen.length 1 fun(j:Nat)=>bif j.beq (todo.getD k.toNat 0).toNat then[Ac true] else[Ac (seen.getD j false)],Ob.arr true 0 (todo.length+y.length) 1 fun(i:Nat)=>bif i.blt todo.length then AJ todo i else AJ y (i - todo.length)])))))):=by kernel_rfl
theorem Abj (b:Bool)(m:D.Model)(i:Int)(p:D.Proc)(k:Int)(J:St->Prop):((fc Bx GN Tryz.f62 [] (Ac b)).loop [1,1,0,1,0] J).goal (Lm m i p k) =
  (BB (decide (k<(↑p.Locs.length:Int))) (inX k p.Locs.length/\∃ (y:List (List D.Trans)),VC 102 [VV.agg (Bf (p.Locs.getD k.toNat default))] (AW true y)/\Aq ((fc Bx GN Tryz.f62 [] (Ac b)).loop [1,1,0,1,0] J) [1,1,0,0,1,1,0] (Ll m i p k y (0:Int))) (∃ (y:Bool),((true&&decide (p.Provided<0)==false)=true->VC 104 [tpM m,Aa i,VV.sl true 1 1 fun(i:Nat)=>List.take 1 (List.drop (i*1) [Aa p.Provided]),Aa (-1)] (Ac y))/\LQ (Ac (bif decide (p.Provided<0) then true else y)) (Ac b))):=by kernel_rfl
theorem Abi (b:Bool)(m:D.Model)(i:Int)(p:D.Proc)(k:Int)(ws:List (List D.Trans))(j:Int)(J J2:St->Prop):(((fc Bx GN Tryz.f62 [] (Ac b)).loop [1,1,0,1,0] J).loop [1,1,0,0,1,1,0] J2).goal (Ll m i p k ws j) =
  (BB (decide (j<(↑ws.length:Int))) (inX j ws.length/\Aq (((fc Bx GN Tryz.f62 [] (Ac b)).loop [1,1,0,1,0] J).loop [1,1,0,0,1,1,0] J2) [1,1,0,0,1,1,0] (NN m i p k ws j (ws.getD j.toNat []) (0:Int))) (J (Lm m i p (IntKind.i64.wrap (k+(1:Int)))))):=by kernel_rfl
theorem Abh (b:Bool)(m:D.Model)(i:Int)(p:D.Proc)(k:Int)(ws:List (List D.Trans))(j:Int)(w:List D.Trans)(h:Int)(J J2 J3:St->Prop):((((fc Bx GN Tryz.f62 [] (Ac b)).loop [1,1,0,1,0] J).loop [1,1,0,0,1,1,0] J2).loop [1,1,0,0,1,1,0] J3).goal (NN m i p k ws j w h) =
  (BB (decide (h<(↑w.length:Int))) (inX h w.length/\∃ (y:Bool),VC 103 [tpM m,Aa i,VV.agg (Ar (w.getD h.toNat default).S)] (Ac y)/\BB (!y) (LQ (Ac false) (Ac b)) (J3 (NN m i p k ws j w (IntKind.i64.wrap (h+(1:Int)))))) (J2 (Ll m i p k ws (IntKind.i64.wrap (j+(1:Int)))))):=by kernel_rfl
theorem S2 (r e:Int)(m:D.Model)(k:Int)(J:St->Prop):((fc Bx Dk Tryz.f58 [] (.tup [Aa r,Aa e])).loop [1,1,1,1,1,0,1,0] J).goal (RG m k) =
  (BB (decide (k<(↑m.Shapes.length:Int))) (inX k m.Shapes.length/\∃ (y:Bool),VC 99 [VV.agg (BZ (m.Shapes.getD k.toNat default))] (Ac y)/\BB (!y) (LQ (VV.tup [Aa 2,Aa k]) (VV.tup [Aa r,Aa e])) (J (RG m (IntKind.i64.wrap (k+(1:Int)))))) (Aq (fc Bx Dk Tryz.f58 [] (VV.tup [Aa r,Aa e])) [1,1,1,1,1,1,0,1,0] (RF m (0:Int)))):=by kernel_rfl
theorem S1 (r e:Int)(m:D.Model)(k:Int)(J:St->Prop):((fc Bx Dk Tryz.f58 [] (.tup [Aa r,Aa e])).loop [1,1,1,1,1,1,0,1,0] J).goal (RF m k) =
  (BB (decide (k<(↑m.Chans.length:Int))) (inX k m.Chans.length/\BB (bif decide (m.Chans.getD k.toNat 0<0) then true else decide (m.Chans.getD k.toNat 0>=(↑m.Shapes.length:Int))) (LQ (VV.tup [Aa 2,Aa k]) (VV.tup [Aa r,Aa e])) (J (RF m (IntKind.i64.wrap (k+(1:Int)))))) (BB (bif bif bif bif decide ((↑m.Procs.length:Int)<1) then true else decide ((↑m.Procs.length:Int) > 16) then true else decide (m.Claim<(-1:Int)) then true else decide (m.Claim>=(↑m.Procs.length:Int)) then true else decide ((↑m.Exprs.length:Int) > 4096)) (LQ (VV.tup [Aa 3,Aa (-1)]) (VV.tup [Aa r,Aa e])) (((0:Int)<=(↑m.Exprs.length:Int)/\(↑m.Exprs.length:Int)<=(↑m.Exprs.length:Int)/\(↑m.Exprs.length:Int)*(↑1:Int)<=140737488355328)/\Aq (fc Bx Dk Tryz.f58 [] (VV.tup [Aa r,Aa e])) [1,1,1,1,1,1,1,1,1,0,1,0] (Av [(0,tpM m),(4,VV.bp 0 0),(10,VV.ow 1 0 (↑m.Exprs.length:Int).toNat),(116,Aa (↑m.Exprs.length:Int)),(117,Aa 0)] [Ob.box (Af m),Ob.arr true 0 (↑m.Exprs.length:Int).toNat 1 fun(_:Nat)=>((fc Bx Dk Tryz.f58 [] (VV.tup [Aa r,Aa e])).T 4).zero])))):=by kernel_rfl
theorem S0 (r e:Int)(m:D.Model)(had:List Bool)(k:Int)(J:St->Prop):((fc Bx Dk Tryz.f58 [] (.tup [Aa r,Aa e])).loop [1,1,1,1,1,1,1,1,1,0,1,0] J).goal (VB m had k) =
  (BB (decide (k<(↑m.Exprs.length:Int))) (∃ (y:Bool),VC 100 [tpM m,Aa k] (Ac y)/\BB (!y) (LQ (VV.tup [Aa 3,Aa k]) (VV.tup [Aa r,Aa e])) (inX k m.Exprs.length/\∃ (y:List Int),VC 101 [VV.agg (AE (m.Exprs.getD k.toNat default))] (Ad true y)/\Aq ((fc Bx Dk Tryz.f58 [] (VV.tup [Aa r,Aa e])).loop [1,1,1,1,1,1,1,1,1,0,1,0] J) [1,1,0,0,1,1,1,0] (VA m had k y (0:Int)))) (LQ (VV.tup [Aa 0,Aa 0]) (VV.tup [Aa r,Aa e]))):=by kernel_rfl
theorem SZ (r e:Int)(m:D.Model)(had:List Bool)(k:Int)(l:List Int)(j:Int)(J J2:St->Prop):(((fc Bx Dk Tryz.f58 [] (.tup [Aa r,Aa e])).loop [1,1,1,1,1,1,1,1,1,0,1,0] J).loop [1,1,0,0,1,1,1,0] J2).goal (VA m had k l j) =
  (BB (decide (j<(↑l.length:Int))) (inX j l.length/\inX (l.getD j.toNat 0) had.length/\BB (had.getD (l.getD j.toNat 0).toNat false) (LQ (VV.tup [Aa 3,Aa k]) (VV.tup [Aa r,Aa e])) (inX (l.getD j.toNat 0) had.length/\J2 (Av [(0,tpM m),(4,VV.bp 0 0),(10,VV.ow 1 0 had.length),(11,Aa k),(116,Aa (↑m.Exprs.length:Int)),(117,Aa k),(130,Ad true l),(131,Aa (↑l.length:Int)),(132,Aa (IntKind.i64.wrap (j+(1:Int))))] [Ob.box (Af m),Ob.arr true 0 had.length 1 fun(j_1:Nat)=>bif j_1.beq (l.getD j.toNat 0).toNat then[Ac true] else[Ac (had.getD j_1 false)]]))) (J (VB m had (IntKind.i64.wrap (k+(1:Int)))))):=by kernel_rfl
theorem AbM (r:List Int)(x:D.Expr)(l:List Int)(k:Int)(J:St->Prop):((fc Bx GO Tryz.f101 [] (Ad true r)).loop [1,1,1,0,1,0,1,1,0] J).goal (VD x l k) =
  (BB (decide (k<(↑x.V.Dims.length:Int))) (inX k x.V.Dims.length/\(l.length+1)*8<=140737488355328/\J (Av [(3,VV.ow 0 0 (l.length+1)),(45,BK true x.V.Dims),(46,Aa (↑x.V.Dims.length:Int)),(47,Aa (IntKind.i64.wrap (k+(1:Int))))] [Ob.arr true 0 (l.length+1) 1 fun(i:Nat)=>bif i.blt l.length then[Aa (l.getD i 0)] else(fun(i:Nat)=>List.take 1 (List.drop (i*1) [Aa (x.V.Dims.getD k.toNat default).I])) (i - l.length)])) (LQ (Ad true l) (Ad true r))):=by kernel_rfl
theorem X7 (r e f:Int)(m:D.Model)(many k:Int)(J:St->Prop):((fc Bx HJ Tryz.f28 [] (.tup [Aa r,Aa e,Aa f])).loop [1,1,1,1,0,1,0] J).goal (Ls m many k) =
  (BB (decide (k<(↑m.Procs.length:Int))) (inX k m.Procs.length/\∃ (y:Bool),VC 59 [VV.agg (AO (m.Procs.getD k.toNat default))] (Ac y)/\∃ (y_1:Bool),((true&&(!y)==false)=true->VC 60 [VV.agg (AO (m.Procs.getD k.toNat default))] (Ac y_1))/\∃ (y_2:Bool),((true&&(bif bif bif !y then true else !y_1 then true else decide ((m.Procs.getD k.toNat default).Provided<(-1:Int)) then true else decide ((m.Procs.getD k.toNat default).Provided>=(↑m.Exprs.length:Int)))==false&&(k==m.Claim)==true)=true->VC 61 [VV.agg (AO (m.Procs.getD k.toNat default))] (Ac y_2))/\BB (bif bif bif bif !y then true else !y_1 then true else decide ((m.Procs.getD k.toNat default).Provided<(-1:Int)) then true else decide ((m.Procs.getD k.toNat default).Provided>=(↑m.Exprs.length:Int)) then true else bif k==m.Claim then !y_2 else false) (LQ (VV.tup [Aa 40,Aa 4,Aa k]) (VV.tup [Aa r,Aa e,Aa f])) (J (Ls m (IntKind.i64.wrap (many+(m.Procs.getD k.toNat default).Active)) (IntKind.i64.wrap (k+(1:Int)))))) (BB (decide (many > 16)) (LQ (VV.tup [Aa 40,Aa 5,Aa (-1)]) (VV.tup [Aa r,Aa e,Aa f])) (Aq (fc Bx HJ Tryz.f28 [] (VV.tup [Aa r,Aa e,Aa f])) [1,1,1,1,1,1,0,1,0] (Lr m (0:Int))))):=by kernel_rfl
theorem X6 (r e f:Int)(m:D.Model)(k:Int)(J:St->Prop):((fc Bx HJ Tryz.f28 [] (.tup [Aa r,Aa e,Aa f])).loop [1,1,1,1,1,1,0,1,0] J).goal (Lr m k) =
  (BB (decide (k<(↑m.Procs.length:Int))) (∃ (y:Bool),VC 62 [tpM m,Aa k] (Ac y)/\BB (!y) (LQ (VV.tup [Aa 40,Aa 6,Aa k]) (VV.tup [Aa r,Aa e,Aa f])) (J (Lr m (IntKind.i64.wrap (k+(1:Int)))))) (LQ (VV.tup [Aa 0,Aa 0,Aa 0]) (VV.tup [Aa r,Aa e,Aa f]))):=by kernel_rfl
end Go.Proofs.YtlhajmkjfcbhnaaGreat
