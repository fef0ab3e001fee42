/-
  Texts, joined: SpI, SpJ, SpQ, SpV1, SpV2, VjCut, SpV3, SpV4, SpV5, SpV6, SpV7, SpV8, SpV9, SpS, SpVA, LawKit, SpLaid.
-/
import Derived.Test.YtmdcknlpalfhhaaGreatDoorSkE
import Derived.Test.YtmdcknlpalfhhaaGreatDoorRows
import Derived.WalkKit
import Derived.ProofKit
import Derived.OpenShut
import Derived.Test.YtmdcknlpalfhhaaGreatDoorCards
import Derived.Test.YtmdcknlpalfhhaaGreatDoorTie
import Derived.Deep.DeepHandedRow
import Derived.Lib.LaidTab
import Derived.Stop.LaidErr
namespace Go.Proofs.YtmdcknlpalfhhaaGreatDoor
open Go.RowKit
structure Gs (m:D.Model) (s:D.State):Prop where
 wf:Av m
 may:Dt m=true
 fits:EI m s
section
variable {m : D.Model} {s:D.State} {e:D.Env} {w:Wy}
theorem Gs.check (h:Gs m s):Ci m s=0:=by
 unfold Ci
 rw[h.may,Ec.2 h.fits]<;>rfl
theorem Gs.fit (h:Gs m s):Fit s:=Tt h.may (Ec.2 h.fits)
theorem Gs.small (h:Gs m s):Be s:=h.fit.small
theorem Gs.pid (h:Gs m s){i:Int}{t:Bool}{a:List Bool}(h0:0<=i/\i<s.Procs.length):CM ⟨m,s,i,t,a⟩/\G7 ⟨m,s,i,t,a⟩=0:=by
 refine⟨⟨⟨Ec.2 h.fits,h.may,h.wf,⟨by show -1<=i;omega,h0.2⟩⟩,h0.1⟩,?_⟩
 have h1:Ci (D.Env.mk m s i t a).M (D.Env.mk m s i t a).S=0:=h.check
 unfold G7
 rw[h1,Alm (show ¬ (D.Env.mk m s i t a).Pid<0 by show ¬ i<0;omega),Alm (show ¬ ((D.Env.mk m s i t a).S.Procs.length:Int)<=(D.Env.mk m s i t a).Pid by show ¬ (s.Procs.length:Int)<=i;omega)]<;>rfl
theorem O2 (h0:G7 e=0):Fd e=(Bm e,0):=by
 unfold Fd
 rw[h0]<;>rfl
theorem Ajc (h:CM e)(hin:w∈Bm e)(hz:(goP e w).2.2=0):Whole e w (goP e w).1:=AeY h hin (fun h0=>(Tp h hin h0).1) hz
theorem Zz (h:CM e)(hin:w∈Bm e)(hz:(goP e w).2.2=0):Gs e.M (goP e w).1:=⟨h.ok.wf,h.ok.may,(Ajc h hin hz).fits⟩
theorem Lp : ∀ {L:By} {l:List Int},(∀ n∈l,I64 n)->(BV L l).length<=L.length*64
 | [],_,_=>AkV _
 | [_],_,_=>by show 1<=1*64;omega
 | c::d::r,l,h=>by
  have i1:=Lp (L:=d::r) (l:=l) h
  have i2:=fun(l:List Int) (h:∀ n∈l,I64 n)=>Lp (L:=r) (l:=l) h
  unfold BV
  simp only[Alo]at i1 ⊢
  cases (!(c==37)) with
  | true=>rw[AkQ,Alo];omega
  | false =>
   rw[AkN]
   cases (d==37) with
   | true=>have:=i2 l h;rw[AkQ,Alo];omega
   | false =>
    rw[AkN]
    cases Gp d with
    | false=>have:=i2 l h;rw[AkN,Alo,Alo];omega
    | true =>
     rw[AkQ]
     cases l with
     | nil=>have:=i2 [] h;show(BV r []).length<=_;omega
     | cons n l =>
      have:=i2 l fun x hx=>h x (Alb _ hx)
      have hs:=Fs (c:=d) (h n AkY)
      rw[Kt]at hs
      show(Cj d n++BV r l).length<=_
      rw[Ak4];omega
theorem OI (h:CM e)(hin:w∈Bm e):(goP e w).2.1.size<=67108864:=by
 have hz:(ByteArray.mk #[]).size<=67108864:=by decide
 unfold goP goE
 cases decide (w.Err≠0) with
 | true=>exact hz
 | false =>
 rw[AkN]
 cases c2:decide (w.Way<0) with
 | true=>exact hz
 | false =>
 rw[AkN]
 cases decide ((Dn CW e (CN e w).S w).2.2≠0) with
 | true=>exact hz
 | false =>
 rw[AkN]
 have h0:0<=w.Way:=by have:=Ak6 c2;omega
 have g:=(Tp h hin h0).1.st
 show(Dn CW e (CN e w).S w).2.1.size<=_
 unfold Dn
 split
 ·cases DP e (CN e w).S.A<;>exact hz
 split
 ·exact hz
 split
 ·exact hz
 split
 ·show(bif decide ((BS e (CN e w).S.Args).2≠0) then(⟨#[]⟩:ByteArray) else CW (CN e w).S.Text (BS e (CN e w).S.Args).1).size<=_
  cases decide ((BS e (CN e w).S.Args).2≠0) with
  | true=>exact hz
  | false =>
   rw[AkN]
   have h1:=g.wf.Text
   have h2:=Lp (L:=bs (CN e w).S.Text) (l:=(BS e (CN e w).S.Args).1) fun x hx=>by
    have:=VX h.ok.wf hx
    unfold B33 at this
    unfold I64
    omega
   unfold CW
   rw[Kt]
   rw[← Ku]at h2
   omega
 split
 ·exact hz
 split
 ·exact hz
 split<;>exact hz
theorem RU {n:Nat}{g:Gn}(h:g∈EO e n):∃ i:Nat,i<n/\g=(BH e i,(Fd (BH e i)).1):=by
 induction n with
 | zero=>cases h
 | succ n ih =>
  rcases Als.1 (show g∈EO e n++JP e n from h) with h | h
  ·obtain⟨i,hi,hg⟩:=ih h
   exact⟨i,by omega,hg⟩
  ·unfold JP at h
   cases c:decide (0<(Fd (BH e n)).1.length) with
   | false=>rw[c]at h;cases h
   | true =>
    rw[c]at h
    exact⟨n,by omega,Aln.1 h⟩
theorem RH {e:D.Env}:∀ {l:List Gn} {most:Int} {g:Gn},(Mw e most l).1=some g->g∈l
 | [],_,_,h=>by cases h
 | x::r,most,g,h=>by
  unfold Mw at h
  cases c:decide (x.1.Pid=e.S.Alone) with
  | true =>
   rw[c,AkQ]at h
   rw[← Ak9 h]
   exact AkY
  | false =>
   rw[c,AkN]at h
   exact Alb _ (RH h)
theorem X2 {g:Gn}(h:g∈C9 e):∃ i:Nat,i<e.S.Procs.length/\g=(BH e i,(Fd (BH e i)).1):=by
 unfold C9 at h
 refine RU (n:=e.S.Procs.length) ?_
 split at h
 ·next g' _ hq =>
  rw[Aln.1 h]
  exact RH (congrArg Prod.fst hq)
 ·exact(List.mem_filter.1 h).1
theorem LA (h:Gs m s){g:Gn}(hg:g∈Gr m s):∃ (i:Nat) (t:Bool),i<s.Procs.length/\g=(⟨m,s,i,t,CD m s s.Procs.length⟩,Bm ⟨m,s,i,t,CD m s s.Procs.length⟩):=by
 have ha:Hw m s=CD m s s.Procs.length:=by
  unfold Hw
  rw[h.check]<;>rfl
 have key:∀ t,g∈C9 ⟨m,s,0,t,Hw m s⟩->∃ (i:Nat) (t:Bool),i<s.Procs.length/\g=(⟨m,s,i,t,CD m s s.Procs.length⟩,Bm ⟨m,s,i,t,CD m s s.Procs.length⟩):=by
  intro t hg
  obtain⟨i,hi,rfl⟩:=X2 hg
  have hi:i<s.Procs.length:=hi
  refine⟨i,t,hi,?_⟩
  rw[ha]
  have:=O2 (h.pid (i:=i) (t:=t) (a:=CD m s s.Procs.length) ⟨by omega,by omega⟩).2
  exact Prod.ext rfl (congrArg Prod.fst this)
 unfold Gr at hg
 cases c:decide (0<(C9 ⟨m,s,0,false,Hw m s⟩).length) with
 | true=>rw[c]at hg;exact key _ hg
 | false=>rw[c]at hg;exact key _ hg
theorem RD : ∀ {l:List Gn} {p:D.Env × Wy},p∈Cy l->∃ g∈l,p.1=g.1/\p.2∈g.2
 | [],_,h=>by cases h
 | g::r,p,h=>by
  rcases Als.1 (show p∈g.2.map (fun w=>(g.1,w))++Cy r from h) with h | h
  ·obtain⟨w,hw,rfl⟩:=Amd.1 h
   exact⟨g,AkY,rfl,hw⟩
  ·obtain⟨g',h1,h2⟩:=RD h
   exact⟨g',Alb _ h1,h2⟩
theorem R3 (h:Gs m s){p:D.Env × Wy}(hp:p∈Dx m s):p.1.M=m/\p.1.S=s/\CM p.1/\G7 p.1=0/\p.2∈Bm p.1:=by
 obtain⟨g,hg,h1,h2⟩:=RD hp
 obtain⟨i,t,hi,rfl⟩:=LA h hg
 have hx:=h.pid (i:=i) (t:=t) (a:=CD m s s.Procs.length) ⟨by omega,by omega⟩
 rw[h1]
 exact⟨rfl,rfl,hx.1,hx.2,h2⟩
theorem Nn {n:Nat}:(EO e n).length<=n:=by
 induction n with
 | zero=>exact AkU _
 | succ n ih =>
  show(EO e n++JP e n).length<=_
  rw[Ak4]
  have:(JP e n).length<=1:=by
   unfold JP
   cases decide (0<(Fd (BH e n)).1.length)<;>simp
  omega
theorem X3 : (C9 e).length<=e.S.Procs.length+1:=by
 unfold C9
 split
 ·simp
 ·exact Nat.le_succ_of_le (Alg (List.length_filter_le ..) Nn)
theorem RE {K:Nat}:∀ {l:List Gn},(∀ g∈l,g.2.length<=K)->(Cy l).length<=l.length*K
 | [],_=>AkV _
 | g::r,h=>by
  show(g.2.map (fun w=>(g.1,w))++Cy r).length<=_
  have h1:=h g AkY
  have h2:=RE (l:=r) fun x hx=>h x (Alb _ hx)
  rw[Ak4,AlU,Alo,AmG]
  omega
theorem Qf (h:Gs m s):(Gr m s).length<=17:=by
 have hp:=h.fits.pl
 have h1:=fun t=>X3 (e:=⟨m,s,0,t,Hw m s⟩)
 have h2:∀ t,(C9 ⟨m,s,0,t,Hw m s⟩).length<=17:=fun t=>by have:=h1 t;exact Alg this (by show s.Procs.length+1<=17;omega)
 unfold Gr
 cases decide (0<(C9 ⟨m,s,0,false,Hw m s⟩).length)<;>exact h2 _
theorem R4 (h:Gs m s):(Dx m s).length<=285230080:=by
 have h1:=Qf h
 have h2:=RE (K:=16778240) (l:=Gr m s) fun g hg=>by
  obtain⟨i,t,hi,rfl⟩:=LA h hg
  exact KA (h.pid (i:=i) (t:=t) (a:=CD m s s.Procs.length) ⟨by omega,by omega⟩).1
 have h3:=Ala 16778240 h1
 unfold Dx
 omega
end
section
variable {m : D.Model} {s:D.State} {e:D.Env} {w:Wy}
theorem Na {pid:Int}(h:(CK m s pid).2=true):0<=pid/\pid<s.Procs.length:=by
 unfold CK at h
 cases c:(decide (pid<0)||decide ((s.Procs.length:Int)<=pid)) with
 | true=>rw[c]at h;cases h
 | false =>
  simp only[Ald,Alq]at c
  omega
theorem PY {pid:Int}{k:Nat}{t:ByteArray}:onS m pid (k+1) s t=bif !(CK m s pid).2||!(CK m s pid).1.Dstep then(s,t,0) else
  match(Fd ⟨m,s,pid,false,[]⟩).1.find? fun w=>decide (w.With<0) with
  | none=>(Cr,noT,53)
  | some w=>bif decide ((goP ⟨m,s,pid,false,[]⟩ w).2.2≠0) then(Cr,noT,(goP ⟨m,s,pid,false,[]⟩ w).2.2)
   else onS m pid k (goP ⟨m,s,pid,false,[]⟩ w).1 (t++(goP ⟨m,s,pid,false,[]⟩ w).2.1):=rfl
theorem S9 {pid:Int}:∀ {k:Nat} {s:D.State} {t:ByteArray},Gs m s->((onS m pid k s t).2.2=0->Gs m (onS m pid k s t).1)/\(onS m pid k s t).2.1.size<=t.size+k*67108864
 | 0,s,t,h=>by
  have hq:onS m pid 0 s t=bif !(CK m s pid).2||!(CK m s pid).1.Dstep then(s,t,0) else(Cr,noT,53):=rfl
  rw[hq]
  cases (!(CK m s pid).2||!(CK m s pid).1.Dstep) with
  | true=>exact⟨fun _=>h,AlJ _ _⟩
  | false=>exact⟨fun h=>absurd (show(53:Int)=0 from h) (by decide),AkV _⟩
 | k+1,s,t,h=>by
  rw[PY]
  cases c:(!(CK m s pid).2||!(CK m s pid).1.Dstep) with
  | true=>exact⟨fun _=>h,AlJ _ _⟩
  | false =>
  rw[AkN]
  simp only[Ald,AmN]at c
  obtain⟨hE,hx⟩:=h.pid (t:=false) (a:=[]) (Na c.1)
  rw[O2 hx]
  cases hf:(Bm ⟨m,s,pid,false,[]⟩).find? fun w=>decide (w.With<0) with
  | none=>exact⟨fun h=>absurd (show(53:Int)=0 from h) (by decide),AkV _⟩
  | some w =>
   have hin:=Am7 hf
   show((bif decide ((goP ⟨m,s,pid,false,[]⟩ w).2.2≠0) then(Cr,noT,(goP ⟨m,s,pid,false,[]⟩ w).2.2) else onS m pid k (goP ⟨m,s,pid,false,[]⟩ w).1 (t++(goP ⟨m,s,pid,false,[]⟩ w).2.1)).2.2=0->Gs m (bif decide ((goP ⟨m,s,pid,false,[]⟩ w).2.2≠0) then(Cr,noT,(goP ⟨m,s,pid,false,[]⟩ w).2.2) else onS m pid k (goP ⟨m,s,pid,false,[]⟩ w).1 (t++(goP ⟨m,s,pid,false,[]⟩ w).2.1)).1) /\
    (bif decide ((goP ⟨m,s,pid,false,[]⟩ w).2.2≠0) then(Cr,noT,(goP ⟨m,s,pid,false,[]⟩ w).2.2) else onS m pid k (goP ⟨m,s,pid,false,[]⟩ w).1 (t++(goP ⟨m,s,pid,false,[]⟩ w).2.1)).2.1.size<=_
   cases c2:decide ((goP ⟨m,s,pid,false,[]⟩ w).2.2≠0) with
   | true=>exact⟨fun h=>absurd h (AkW c2),AkV _⟩
   | false =>
    rw[AkN]
    have hz:(goP ⟨m,s,pid,false,[]⟩ w).2.2=0:=by simpa using c2
    have ht:=OI hE hin
    obtain⟨a,b⟩:=S9 (k:=k) (pid:=pid) (t:=t++(goP ⟨m,s,pid,false,[]⟩ w).2.1) (Zz hE hin hz)
    refine⟨a,Alg b ?_⟩
    rw[Al7,AmG]
    omega
theorem QH {pid:Int}(h:Gs m s):Gs m (Ez m s pid):=by
 unfold Ez
 cases c:((CK m s pid).2&&(CK m s pid).1.Atomic) with
 | false=>exact h
 | true =>
  simp only[AkO]at c
  have hp:=Na c.1
  have f:=h.fits
  exact⟨h.wf,h.may,⟨f.g,f.cl,f.pl,f.l,⟨by show -1<=pid;omega,hp.2⟩,f.c,f.p,f.k⟩⟩
theorem ZC (h:Gs m s):Gs m { s with Alone:=-1 }:=by
 have f:=h.fits
 have:=f.a
 exact⟨h.wf,h.may,⟨f.g,f.cl,f.pl,f.l,⟨by show -1<=(-1:Int);omega,by show(-1:Int)<s.Procs.length;omega⟩,f.c,f.p,f.k⟩⟩
structure V0 (m:D.Model) (n:Nx):Prop where
 gs:n.Err=0->Gs m n.State
 text:n.Text.size<=13488881664
theorem Af2 (h:CM e)(hin:w∈Bm e):V0 e.M (Fe e w):=by
 unfold Fe
 cases c1:decide ((goP e w).2.2≠0) with
 | true=>exact⟨fun h=>absurd h (AkW c1),AkV _⟩
 | false =>
 rw[AkN]
 have hz:(goP e w).2.2=0:=by simpa using c1
 obtain⟨a,b⟩:=S9 (pid:=e.Pid) (k:=200) (t:=noT) (Zz h hin hz)
 cases c2:decide ((onS e.M e.Pid 200 (goP e w).1 noT).2.2≠0) with
 | true=>exact⟨fun h=>absurd h (AkW c2),AkV _⟩
 | false =>
 rw[AkN]
 have ht:=OI h hin
 refine⟨fun _=>QH (QH (ZC (a (by simpa using c2)))),?_⟩
 show((goP e w).2.1++(onS e.M e.Pid 200 (goP e w).1 noT).2.1).size<=_
 rw[Al7]
 have:noT.size=0:=rfl
 omega
theorem Rl (h:Gs m s):(C6 m s).2=0/\(C6 m s).1.length<=285230080/\∀ n∈(C6 m s).1,V0 m n:=by
 unfold C6
 rw[h.check]
 refine⟨rfl,?_,fun n hn=>?_⟩
 ·show((Dx m s).map fun p=>Fe p.1 p.2).length<=_
  rw[AlU]
  exact R4 h
 ·obtain⟨p,hp,rfl⟩:=Amd.1 (show n∈(Dx m s).map fun p=>Fe p.1 p.2 from hn)
  obtain⟨h1,h2,h3,h4,h5⟩:=R3 h hp
  have:=Af2 h3 h5
  rw[h1]at this
  exact this
theorem Y7 (h:Gs m s):(Ff m s).length<=285230080/\∀ n∈Ff m s,V0 m n:=by
 obtain⟨_,h2,h3⟩:=Rl h
 unfold Ff
 cases decide (0<(C6 m s).1.length) with
 | true=>exact⟨h2,h3⟩
 | false =>
  refine⟨by show 1<=_;omega,fun n hn=>?_⟩
  rw[Aln.1 hn]
  exact⟨fun _=>h,AkV _⟩
theorem Qp (h:Gs m s)(hc:0<=m.Claim):(m.Claim<m.Procs.length)/\0<=s.Claim/\s.Claim<(A9 m m.Claim).Locs.length:=by
 have hk:=h.fits.k
 unfold GD at hk
 rw[Alm (by omega:¬ m.Claim<0),AkN]at hk
 have:=CF.1 hk
 exact⟨(G3 h.may).clp,this⟩
theorem MJ (h:Gs m s)(hc:0<=m.Claim):(Ao m s).length<=1024/\(∀ t∈Ao m s,inP (A9 m m.Claim).Locs.length t.To=true)/\O0 ((A9 m m.Claim).Locs.getD s.Claim.toNat default):=by
 obtain⟨h1,h2,h3⟩:=Qp h hc
 have hi:m.Claim.toNat<m.Procs.length:=by omega
 have hl:(A9 m m.Claim).Locs.getD s.Claim.toNat default∈(A9 m m.Claim).Locs:=Aw (by omega)
 have hg:=Qe (DW (Cz h.may).2.1 _ hi).2 _ hl _ AkY
 exact⟨hg.1,hg.2,(h.wf.Procs.2 _ (Aw hi)).Locs.2 _ hl⟩
theorem AfP {c:Int}{to:Int}{n:Nx}(h:V0 m n)(hc:0<=m.Claim)(ht:inP (A9 m m.Claim).Locs.length to=true):V0 m (FR c to n):=by
 unfold FR
 cases c1:decide (n.Err=0) with
 | false=>exact⟨fun h=>absurd h (Ak6 c1),h.text⟩
 | true =>
  refine⟨fun _=>?_,h.text⟩
  have g:=h.gs (AkW c1)
  have f:=g.fits
  refine⟨g.wf,g.may,⟨f.g,f.cl,f.pl,f.l,f.a,f.c,f.p,?_⟩⟩
  show GD m { n.State with Claim:=to }=true
  unfold GD
  rw[Alm (by omega:¬ m.Claim<0),AkN]
  exact ht
theorem AeA (h:Gs m s)(hc:0<=m.Claim){c:Nat}(hl:c<(Ao m s).length):(NV m s c).length<=285230080/\∀ n∈NV m s c,V0 m n:=by
 obtain⟨r1,r2⟩:=Y7 h
 have hto:=(MJ h hc).2.1 _ (Aw (d:=default) hl)
 have hq:NV m s c=bif !(Jg m s c).1 then[] else bif decide ((Jg m s c).2≠0) then[⟨C1 c,Cr,(Jg m s c).2,noT⟩] else(Ff m s).map (FR c ((Ao m s).getD c default).To):=rfl
 rw[hq]
 cases (!(Jg m s c).1) with
 | true=>exact⟨AkV _,fun n hn=>by cases hn⟩
 | false =>
 rw[AkN]
 cases c2:decide ((Jg m s c).2≠0) with
 | true =>
  refine⟨by show 1<=_;omega,fun n hn=>?_⟩
  rw[Aln.1 hn]
  exact⟨fun h=>absurd h (AkW c2),AkV _⟩
 | false =>
  rw[AkN]
  refine⟨by rw[AlU];exact r1,fun n hn=>?_⟩
  obtain⟨x,hx,rfl⟩:=Amd.1 hn
  exact AfP (r2 x hx) hc hto
theorem Nf (h:Gs m s)(hc:0<=m.Claim):∀ {k:Nat},k<=(Ao m s).length->(DY m s k).length<=k*285230080/\∀ n∈DY m s k,V0 m n
 | 0,_=>⟨AkV _,fun n hn=>by cases hn⟩
 | k+1,hk=>by
  obtain⟨a1,a2⟩:=Nf h hc (k:=k) (by omega)
  obtain⟨b1,b2⟩:=AeA h hc (c:=k) (by omega)
  have hq:DY m s (k+1)=DY m s k++NV m s k:=rfl
  rw[hq]
  refine⟨by rw[Ak4,AmG];omega,fun n hn=>?_⟩
  rcases Als.1 hn with hn | hn
  ·exact a2 n hn
  ·exact b2 n hn
theorem MX (h:Gs m s):(AC m s).2=0/\(AC m s).1.length<=292075601920/\∀ n∈(AC m s).1,V0 m n:=by
 obtain⟨h1,h2,h3⟩:=Rl h
 have hq:AC m s=bif decide ((C6 m s).2≠0)||decide (m.Claim<0) then C6 m s else(DY m s (Ao m s).length,0):=rfl
 rw[hq,h1]
 cases c:decide (m.Claim<0) with
 | true=>exact⟨h1,Alg h2 (by omega),h3⟩
 | false =>
  have hc:0<=m.Claim:=by have:=Ak6 c;omega
  obtain⟨a1,a2⟩:=Nf h hc (AkU _)
  have:=Ala 285230080 (MJ h hc).1
  exact⟨rfl,by show(DY m s (Ao m s).length).length<=_;omega,a2⟩
theorem AgD (h:Dt m=true):EN m m.Procs.length<=16:=by
 unfold Dt I1 at h
 cases b1:decide (0<(CV m).1) with
 | true =>
  have h:decide ((40:Int)=0)=true:=by rw[b1]at h;exact h
  exact absurd h (by decide)
 | false =>
 rw[b1,AkN]at h
 cases b2:decide (0<=E5 m) with
 | true =>
  have h:decide ((40:Int)=0)=true:=by rw[b2]at h;exact h
  exact absurd h (by decide)
 | false =>
 rw[b2,AkN]at h
 cases b3:decide (16<EN m m.Procs.length) with
 | true =>
  have h:decide ((40:Int)=0)=true:=by rw[b3]at h;exact h
  exact absurd h (by decide)
 | false=>have:=Ak6 b3;omega
theorem XC (h:Dt m=true)(hc:0<=m.Claim):(A9 m m.Claim).Active<=0:=by
 have h1:=(G3 h).clp
 obtain⟨_,h2,_⟩:=Cz h
 have:=Hd (n:=m.Procs.length) (f:=fun i=>!Eb m i) (by unfold E5 at h2;omega) m.Claim.toNat (by omega)
 unfold Eb at this
 simp only[Amn,Ald,Amx,AmN]at this
 have h3:=this.2.2.2.2
 rw[Aly (by omega:((m.Claim.toNat:Nat):Int)=m.Claim)]at h3
 have h3:E9 (A9 m m.Claim)=true:=h3.resolve_left (by decide)
 unfold E9 at h3
 simp only[AkO,AkS]at h3
 exact h3.1.1.2
theorem LB (h:Dt m=true):∀ {k:Nat},k<=m.Procs.length->((CX m k).length:Int)=EN m k/\∀ p∈CX m k,A2 m p=true
 | 0,_=>⟨rfl,fun p hp=>by cases hp⟩
 | k+1,hk=>by
  obtain⟨a1,a2⟩:=LB h (k:=k) (by omega)
  have hf:Dk (A9 m k)=true:=(DW (Cz h).2.1 k (by omega)).1
  unfold Dk at hf
  simp only[AkO,AkS]at hf
  have h0:=hf.1.1.1.2
  have hq:CX m (k+1)=CX m k++List.replicate (A9 m k).Active.toNat (Hb m k (List.replicate (A9 m k).Params.toNat 0)):=rfl
  rw[hq]
  refine⟨?_,fun p hp=>?_⟩
  ·have hm:EN m (k+1)=EN m k+(A9 m k).Active:=by
    unfold EN A9
    rw[AmR,show m.Procs[k]?=some (m.Procs.getD (k:Int).toNat default) by simp[List.getD,show k<m.Procs.length by omega]]
    simp
   rw[hm,Ak4,List.length_replicate,← a1]
   omega
  ·rcases Als.1 hp with hp | hp
   ·exact a2 p hp
   ·obtain⟨hn,rfl⟩:=List.mem_replicate.1 hp
    refine VP h ⟨by omega,by omega⟩ fun hc=>hn ?_
    have:=XC h (by omega)
    rw[← hc]at this
    omega
theorem Zo (h:Dt m=true):∀ {k:Nat},k<=m.Procs.length->(CX m k).length<=16:=fun{k} hk=>by
 have h1:=AgD h
 rw[← (LB h (AkU _)).1]at h1
 have key:∀ {n j:Nat},(CX m n).length<=(CX m (n+j)).length:=by
  intro n j
  induction j with
  | zero=>exact AkU _
  | succ j ih =>
   refine Alg ih ?_
   show _<=(CX m (n+j)++_).length
   rw[Ak4]
   exact AlJ _ _
 have:=key (n:=k) (j:=m.Procs.length - k)
 rw[show k+(m.Procs.length - k)=m.Procs.length by omega]at this
 omega
theorem Vn (hw:Av m)(h:Dt m=true):Gs m (AH m):=by
 obtain⟨t1,t2,_⟩:=Cz h
 have t:=Pp t1
 refine⟨hw,h,⟨?_,?_,Zo h (AkU _),⟨Ama _,by show(0:Int)<16;decide⟩,⟨Ama _,by show(-1:Int)<((CX m m.Procs.length).length:Int);omega⟩,fun c hc=>?_,(LB h (AkU _)).2,?_⟩⟩
 ·have ht:∀ i,i<m.Globals.length->DF (m.Globals.getD i default) (m.Init.getD i 0)=true:=Hd (by have:=t.types;unfold Fm at *;omega)
  exact Jr t.init.symm fun k hk=>ht k (by have:=t.init;have hk:k<m.Init.length:=hk;omega)
 ·show(m.Chans.map _).length<=32
  rw[AlU]
  exact t.chans
 ·obtain⟨k,hk,rfl⟩:=Amd.1 (show c∈m.Chans.map (fun k=>(⟨k,[]⟩:D.Chan)) from hc)
  obtain⟨i,hi,rfl⟩:∃ i,i<m.Chans.length/\m.Chans.getD i 0=k:=by
   obtain⟨i,hi,rfl⟩:=Al4 hk
   exact⟨i,hi,by simp[List.getD,hi]⟩
  have h1:=t.chan i hi
  have h2:=CF.1 h1
  have h3:=t.shape (m.Chans.getD i 0).toNat (by omega)
  unfold D6 at h3
  simp only[AkO,AkS]at h3
  unfold Dg BU
  simp only[AkO,AkS]
  exact⟨⟨h1,h3.1.1.1.1⟩,Bx.2 fun j hj=>absurd hj (AlZ _)⟩
 ·show GD m (AH m)=true
  unfold GD AH
  cases c:decide (m.Claim<0) with
  | true =>
   have:=AkW c
   rw[Alm (by omega:¬ 0<=m.Claim)]<;>rfl
  | false =>
   have c:=Ak6 c
   rw[Aly (by omega:0<=m.Claim)]
   have h1:=(G3 h).clp
   have hg:EE (A9 m m.Claim)=true:=(DW t2 m.Claim.toNat (by omega)).2
   unfold EE at hg
   simp only[AkO,AkS]at hg
   exact hg.1.1.2
theorem PS {p:Int}{n:Nat}(h:0<n):CL p n<n:=by
 unfold CL
 have h1:=Int.tmod_nonneg (a:=p.tmod n+n) n (by have h3:=Int.natAbs_tmod p n;have h4:=AmQ p.natAbs (show 0<(n:Int).natAbs by omega);omega)
 have h2:=Int.tmod_lt_of_pos (p.tmod n+n) (show(0:Int)<n by omega)
 omega
theorem YZ : ∀ {p:List Int} {s:D.State},Gs m s->Gs m (CI m p s).State/\(CI m p s).Moves.length<=p.length/\(CI m p s).Text.size<=p.length*13488881664
 | [],s,h=>⟨h,AkU _,AkV _⟩
 | p::r,s,h=>by
  unfold CI
  cases c1:decide ((AC m s).1.length=0) with
  | true=>exact⟨h,AkV _,AkV _⟩
  | false =>
   rw[AkN]
   cases c2:decide (((AC m s).1.getD (CL p (AC m s).1.length) default).Err≠0) with
   | true=>exact⟨h,by show 1<=r.length+1;omega,AkV _⟩
   | false =>
    rw[AkN]
    have hl:0<(AC m s).1.length:=by have:=Ak6 c1;omega
    have hn:=(MX h).2.2 _ (Aw (d:=default) (PS (p:=p) hl))
    obtain⟨a,b,c⟩:=YZ (p:=r) (hn.gs (by simpa using c2))
    have ht:=hn.text
    refine⟨a,by show(_::_).length<=_;rw[Alo,Alo];omega,?_⟩
    show(_++_:ByteArray).size<=_
    rw[Al7,Alo,AmG]
    omega
end
theorem KC : ∀ (l r:List Gn),Cy (l++r)=Cy l++Cy r
 | [],_=>rfl
 | g::l,r=>by
  show g.2.map (fun w=>(g.1,w))++Cy (l++r)=(g.2.map (fun w=>(g.1,w))++Cy l)++Cy r
  rw[KC l r,AlF]
def Mt (L:List Gn)(i:Nat):Nat:=(Cy (L.take i)).length
theorem AgE {L:List Gn}:Mt L L.length=(Cy L).length:=by unfold Mt;rw[Al1]
theorem Ll {L:List Gn}{i:Nat}(hi:i<L.length):L.take (i+1)=L.take i++[L.getD i default]:=by
 rw[AmR];simp[List.getD,hi]
theorem Aey {L:List Gn}{i:Nat}(hi:i<L.length):Mt L (i+1)=Mt L i+(L.getD i default).2.length:=by
 unfold Mt
 rw[Ll hi,KC]
 simp[Cy]
theorem Agy {L:List Gn}{i j:Nat}(hi:i<L.length)(hj:j<(L.getD i default).2.length):Mt L i+j<(Cy L).length/\(Cy L).getD (Mt L i+j) default=((L.getD i default).1,(L.getD i default).2.getD j default):=by
 have e:Cy L=Cy (L.take i)++((L.getD i default).2.map (fun w=>((L.getD i default).1,w))++Cy (L.drop (i+1))):=by
  have h1:L=L.take (i+1)++L.drop (i+1):=(List.take_append_drop (i+1) L).symm
  have h2:Cy L=Cy (L.take (i+1))++Cy (L.drop (i+1)):=by rw[← KC,← h1]
  rw[h2,Ll hi,KC]
  simp[Cy]
 have hl:Mt L i+j<(Cy L).length:=by
  rw[e]
  simp only[Ak4,AlU]
  unfold Mt
  omega
 refine⟨hl,?_⟩
 rw[Ak2,e,Ak8 (by unfold Mt;omega),show Mt L i+j - (Cy (L.take i)).length=j by unfold Mt;omega,Ak0 (by simpa using hj)]
 generalize (L.getD i default)=g at hj
 rw[Alh,Ak1 hj,Ak2,Ak1 hj]
 rfl
section
variable {m : D.Model} {s:D.State} {e:D.Env} {w:Wy}
theorem AeK : VV.le (.agg [.nl,.nl,Ac false,Ac false,Ac false,Ac false,Ac false]) (.agg (AZ default)):=Al8 ⟨AlE,AlE,VV.le_refl _,VV.le_refl _,VV.le_refl _,VV.le_refl _,VV.le_refl _,trivial⟩
theorem UN {pid:Int}(h:Gs m s):Aj Tryz.prog 59 [] [.agg (Ae m),.agg (Af s),Aa pid] [] (.tup [.agg (AZ (CK m s pid).1),Ac (CK m s pid).2]):=by
 have hq:CK m s pid=bif decide (pid<0)||decide ((s.Procs.length:Int)<=pid) then(default,false) else((IR m (s.Procs.getD pid.toNat default).Type_).getD (s.Procs.getD pid.toNat default).Loc.toNat default,true):=rfl
 generalize CK m s pid=r at hq
 refine Ah Al Am Tryz.func59 (by kernel_rfl) rfl (Agw r m s pid) ⟨fun hb=>?_,fun hb=>?_⟩
 ·rw[A7]at hb
  simp only[Amk]at hb
  rw[hb,AkQ]at hq
  subst hq
  exact⟨trivial,Amq ⟨AeK,VV.le_refl _,trivial⟩⟩
 ·rw[A7]at hb
  simp only[Amk]at hb
  rw[hb,AkN]at hq
  subst hq
  simp only[Ald,Alq]at hb
  have hp:0<=pid/\pid<s.Procs.length:=by omega
  have f:=(h.pid (t:=false) (a:=[]) hp).1.facts
  exact⟨hp,f.1,hp,f.2,trivial,VV.le_refl _⟩
theorem Afi {pid:Int}{b:Bool}:leL [AJ true m.Globals,Ad true m.Init,Bg true m.Shapes,Ad true m.Chans,A4 true m.Procs,Aa m.Claim,Bz true m.Exprs,Ad true s.Globals,Az true s.Chans,Ap true s.Procs,Aa s.Last,Aa s.Alone,Aa s.Claim,Aa pid,Ac b,.nl] (Ag ⟨m,s,pid,b,[]⟩) :=
 ⟨VV.le_refl _,VV.le_refl _,VV.le_refl _,VV.le_refl _,VV.le_refl _,VV.le_refl _,VV.le_refl _,VV.le_refl _,VV.le_refl _,VV.le_refl _,VV.le_refl _,VV.le_refl _,VV.le_refl _,VV.le_refl _,VV.le_refl _,AlE,trivial⟩
theorem R0 {α:Type}{p:α->Bool}:∀ {l:List α} {i:Nat},(∀ j,j<i->∀ x,l[j]?=some x->p x=false)->l.find? p=(l.drop i).find? p
 | l,0,_=>by rw[List.drop_zero]
 | [],i+1,_=>by simp
 | x::l,i+1,h=>by
  rw[List.find?_cons,h 0 (by omega) x rfl,List.drop_succ_cons]
  exact R0 fun j hj y hy=>h (j+1) (by omega) y hy
theorem Tg {r:D.State × ByteArray × Int}{c:Int}(h:(Cr,noT,c)=r):VV.le (.tup [.agg [.nl,.nl,.nl,Aa 0,Aa 0,Aa 0],AP (⟨#[]⟩:ByteArray),Aa c]) (.tup [.agg (Af r.1),AP r.2.1,Aa r.2.2]):=by
 subst h
 exact P7
theorem AdE {pid:Int}(h:Gs m s):Aj Tryz.prog 58 [] [.agg (Ae m),.agg (Af s),Aa pid] [] (.tup [.agg (Af (onS m pid 200 s noT).1),AP (onS m pid 200 s noT).2.1,Aa (onS m pid 200 s noT).2.2]):=by
 generalize hr:onS m pid 200 s noT=r
 refine Ah Al Am Tryz.func58 (by kernel_rfl) rfl (Af6 r m s pid) ?_
 change AB _ _ (AaS m s pid noT 0)
 refine Br Al Am (fun g st=>∃ (n:Nat) (s':D.State) (t:ByteArray),n<=200/\g=200 - n/\Gs m s'/\t.size<=n*67108864/\onS m pid (200 - n) s' t=r/\st=AaS m s' pid t n) (by kernel_rfl) (by kernel_rfl) ⟨_,Up.of ⟨0,s,noT,AkV _,rfl,h,AkV _,hr,rfl⟩⟩ ?_
 clear hr h
 rintro g st ⟨n,s',t,hn,rfl,h,ht,hr,rfl⟩
 refine Ali (AdG r m s' pid t n _) ⟨CK m s' pid,UN h,fun hb=>?_,fun hb=>⟨fun hb2=>?_,fun hb2=>?_⟩⟩
 ·rw[A7]at hb
  cases hk:200 - n with
  | zero =>
   rw[hk]at hr
   have hq:onS m pid 0 s' t=bif !(CK m s' pid).2||!(CK m s' pid).1.Dstep then(s',t,0) else(Cr,noT,53):=rfl
   rw[hq,hb,AkQ]at hr
   subst hr
   exact⟨trivial,VV.le_refl _⟩
  | succ k =>
   rw[hk,PY,hb,AkQ]at hr
   subst hr
   exact⟨trivial,VV.le_refl _⟩
 ·have hn2:n=200:=by simp at hb2;omega
  subst hn2
  rw[A7]at hb
  have hq:onS m pid 0 s' t=bif !(CK m s' pid).2||!(CK m s' pid).1.Dstep then(s',t,0) else(Cr,noT,53):=rfl
  rw[Nat.sub_self,hq,hb,AkN]at hr
  exact⟨trivial,Tg hr⟩
 ·have hn2:n<200:=by simp at hb2;omega
  obtain⟨k,hk⟩:∃ k,200 - n=k+1:=⟨200 - n - 1,by omega⟩
  rw[A7]at hb
  rw[hk,PY,hb,AkN]at hr
  simp only[Ald,AmN]at hb
  obtain⟨hE,hx⟩:=h.pid (t:=false) (a:=[]) (Na hb.1)
  have hw:=OU hE.ok.wf hE.small
  rw[O2 hx]at hr hw
  refine⟨(Bm ⟨m,s',pid,false,[]⟩,0),hw.le trivial ⟨Al8 Afi,trivial⟩ trivial (VV.le_refl _),?_⟩
  refine AB.le (AV _) (l':=[(2,Aa pid),(3,.bp 0 0),(4,.bp 1 0),(6,.bp 2 0),(9,AP t),(10,Aa n),(13,.bp 3 0),(16,Ac false),(52,A6 true (Bm ⟨m,s',pid,false,[]⟩)),(53,Aa (Bm ⟨m,s',pid,false,[]⟩).length),(54,Aa 0)])
   (hs':=[.box (Ae m),.box (Af s'),N5,.box (Ag ⟨m,s',pid,false,[]⟩)]) ⟨Ob.le_refl _,Ob.le_refl _,Ob.le_refl _,Ob.le_box Afi,trivial⟩ ?_
  have hlen:=KA hE
  change AB _ _ (YP m s' pid t n ⟨m,s',pid,false,[]⟩ (Bm ⟨m,s',pid,false,[]⟩) 0)
  have hws:∀ w∈Bm ⟨m,s',pid,false,[]⟩,Aj Tryz.prog 57 [] [.agg (Ag ⟨m,s',pid,false,[]⟩),.agg (A0 w)] [] (.tup [.agg (Af (goP ⟨m,s',pid,false,[]⟩ w).1),AP (goP ⟨m,s',pid,false,[]⟩ w).2.1,Aa (goP ⟨m,s',pid,false,[]⟩ w).2.2])/\((goP ⟨m,s',pid,false,[]⟩ w).2.2=0->Gs m (goP ⟨m,s',pid,false,[]⟩ w).1)/\(goP ⟨m,s',pid,false,[]⟩ w).2.1.size<=67108864:=fun w hin =>
   ⟨AeZ hE hx hin,fun hz=>Zz hE hin hz,OI hE hin⟩
  generalize hL:Bm ⟨m,s',pid,false,[]⟩=ws at hr hlen hws
  generalize hG:goP ⟨m,s',pid,false,[]⟩=G at hr hws
  refine Br Al Am (fun g st=>∃ i:Nat,i<=ws.length/\g=ws.length - i/\(∀ j,j<i->∀ x,ws[j]?=some x->decide (x.With<0)=false)/\st=YP m s' pid t n ⟨m,s',pid,false,[]⟩ ws i) (by kernel_rfl) (by kernel_rfl) ⟨_,Up.of ⟨0,AkV _,rfl,fun j hj=>absurd hj (AlZ _),rfl⟩⟩ ?_
  rintro g st ⟨i,hi,rfl,hI,rfl⟩
  have hfd:=R0 (p:=fun w:Wy=>decide (w.With<0)) hI
  simp only at hr
  rw[hfd]at hr
  refine Ali (AdF r m s' pid t n ⟨m,s',pid,false,[]⟩ ws i _ _) ⟨fun hlt=>?_,fun hge=>⟨fun _=>?_,fun h=>by cases h⟩⟩
  ·have hlt':i<ws.length:=by have:=A3 hlt;omega
   have hto:(i:Int).toNat=i:=by omega
   rw[hto]
   have hget:ws[i]?=some (ws.getD i default):=by simp[List.getD,hlt']
   have hdr:ws.drop i=ws.getD i default::ws.drop (i+1):=by rw[Amh hlt'];simp[List.getD,hlt']
   obtain⟨g1,g2,g3⟩:=hws _ (Aw (d:=default) hlt')
   refine⟨⟨by omega,by omega⟩,fun hv=>?_,fun hv=>?_⟩
   ·refine⟨ws.length - (i+1),by omega,Up.of ⟨i+1,by omega,rfl,fun j hj x hx=>?_,by rw[An (by omega)]⟩⟩
    rcases Alr.1 hj with hj | rfl
    ·exact hI j hj x hx
    ·rw[hget]at hx
     obtain rfl:=Ak9 hx
     simp at hv ⊢;omega
   ·have hneg:decide ((ws.getD i default).With<0)=true:=by simp at hv ⊢;omega
    rw[hdr,List.find?_cons,hneg]at hr
    refine⟨G (ws.getD i default),g1,fun he=>?_,fun he=>⟨?_,⟨fun h=>(by cases h),fun _=>?_⟩⟩⟩
    ·rw[AK]at he
     change(bif decide ((G (ws.getD i default)).2.2≠0) then _ else _)=r at hr
     rw[he,AkQ]at hr
     exact⟨trivial,Tg hr⟩
    ·omega
    ·rw[AK]at he
     change(bif decide ((G (ws.getD i default)).2.2≠0) then _ else _)=r at hr
     rw[he,AkN]at hr
     have hz:(G (ws.getD i default)).2.2=0:=by simpa using he
     refine⟨200 - (n+1),by omega,Up.of ⟨n+1,(G (ws.getD i default)).1,t++(G (ws.getD i default)).2.1,by omega,rfl,g2 hz,?_,?_,by rw[An (by omega)]⟩⟩
     ·rw[Al7];omega
     ·rw[show 200 - (n+1)=k by omega];exact hr
  ·have hge':ws.length<=i:=by have:=A5 hge;omega
   rw[Alz hge']at hr
   exact⟨trivial,Tg hr⟩
end
section
variable {m : D.Model} {s:D.State} {e:D.Env} {w:Wy}
theorem Zq {a b c d f g:Int}{err:Int}:VV.le (.agg [Aa a,Aa b,Aa c,Aa d,Aa f,Aa g,Aa (-1),.nl,.nl,.nl,Aa 0,Aa 0,Aa 0,Aa err,AP ByteArray.empty]) (.agg (Bt ⟨⟨a,b,c,d,f,g,-1⟩,Cr,err,noT⟩)) :=
 Al8 ⟨VV.le_refl _,VV.le_refl _,VV.le_refl _,VV.le_refl _,VV.le_refl _,VV.le_refl _,VV.le_refl _,AlE,AlE,AlE,VV.le_refl _,VV.le_refl _,VV.le_refl _,VV.le_refl _,VV.le_refl _,trivial⟩
theorem Aea {a b:Int}(F:Nat->List VV)(h0:F 0=[Aa a])(h1:F 1=[Aa b]):∀ i,i<2->leL (F i) (AE [a,b] i)
 | 0,_=>AQ h0
 | 1,_=>AQ h1
def alL (m:D.Model)(s:D.State)(l:List Int):D.State:=l.foldl (Ez m) s
theorem AfI : ∀ {l:List Int} {s:D.State},Gs m s->Gs m (alL m s l)
 | [],_,h=>h
 | _::l,_,h=>AfI (l:=l) (QH h)
theorem AfH {l:List Int}{k:Nat}(h:k<l.length):alL m s (l.take (k+1))=Ez m (alL m s (l.take k)) (l.getD k 0):=by
 have:l.take (k+1)=l.take k++[l.getD k 0]:=by rw[AmR];simp[List.getD,h]
 rw[this]
 unfold alL
 rw[List.foldl_append]<;>rfl
theorem AaV {t:ByteArray}(h:Gs e.M s):AB (fc AO J8 Tryz.f40 [] (.agg (Bt ⟨Ng e w,Ez e.M (Ez e.M s e.Pid) w.With,0,t⟩))) [1,1,1,1,1,1,0,1,0] (MZ e w s t 0):=by
 have hz:MZ e w s t 0=MZ e w (alL e.M s ([e.Pid,w.With].take 0)) t ((0:Nat):Int):=rfl
 rw[hz]
 refine AS Al Am 2 (fun k=>MZ e w (alL e.M s ([e.Pid,w.With].take k)) t k) (fun _=>True) (by kernel_rfl) (by kernel_rfl) trivial ?_
 intro k hk _ J next
 have hg:=AfI (l:=[e.Pid,w.With].take k) h
 have hsuc:=fun(h:k<2)=>AfH (m:=e.M) (s:=s) (l:=[e.Pid,w.With]) (k:=k) h
 refine Ali (AaX _ e w _ t k J) ⟨fun hlt=>?_,fun hge=>?_⟩
 ·have hlt':k<2:=by have:=A3 hlt;omega
  have hto:(k:Int).toNat=k:=by omega
  rw[hto]
  have hs2:=hsuc hlt'
  generalize alL e.M s ([e.Pid,w.With].take k)=s1 at hg hs2
  refine⟨⟨by omega,by omega⟩,CK e.M s1 ([e.Pid,w.With].getD k 0),UN hg,fun hb=>next _ hlt' trivial (Up.of ?_),fun hb=>next _ hlt' trivial (Up.of ?_)⟩
  ·rw[A8]at hb
   unfold Ez at hs2
   rw[hb,AkQ]at hs2
   rw[hs2,An (by omega)]<;>rfl
  ·rw[A8]at hb
   unfold Ez at hs2
   rw[hb,AkN]at hs2
   rw[hs2,An (by omega)]
 ·obtain rfl:k=2:=by have:=A5 hge;omega
  exact⟨trivial,VV.le_refl _⟩
theorem AaW (h:CM e)(hx:G7 e=0)(hin:w∈Bm e):Aj Tryz.prog 40 [] [.agg (Ag e),.agg (A0 w)] [] (.agg (Bt (Fe e w))):=by
 generalize hr:Fe e w=r
 refine Ah Al Am Tryz.func40 (by kernel_rfl) rfl (AdB r e w) ⟨goP e w,AeZ h hx hin,fun h1=>?_,fun h1=>?_⟩
 ·have hz:(goP e w).2.2=0:=by simpa using h1
  have hgs:=Zz h hin hz
  obtain⟨a,b⟩:=S9 (pid:=e.Pid) (k:=200) (t:=noT) hgs
  have hq:Fe e w=bif decide ((onS e.M e.Pid 200 (goP e w).1 noT).2.2≠0) then⟨Ng e w,Cr,(onS e.M e.Pid 200 (goP e w).1 noT).2.2,noT⟩
   else⟨Ng e w,Ez e.M (Ez e.M { (onS e.M e.Pid 200 (goP e w).1 noT).1 with Alone:=-1 } e.Pid) w.With,0,(goP e w).2.1++(onS e.M e.Pid 200 (goP e w).1 noT).2.1⟩:=by
   unfold Fe
   rw[Alm (by simpa using hz),AkN]
  have ht:=OI h hin
  have hn:noT.size=0:=rfl
  rw[hr]at hq
  refine⟨onS e.M e.Pid 200 (goP e w).1 noT,AdE hgs,by omega,fun h2=>?_,fun h2=>?_⟩
  ·rw[AK]at h2
   rw[h2,AkQ]at hq
   subst hq
   exact⟨trivial,Zq⟩
  ·rw[AK]at h2
   rw[h2,AkN]at hq
   subst hq
   refine AB.le (hs':=[.box (Ag e),.box Ab3,.box (Akl e w),.box (Af { (onS e.M e.Pid 200 (goP e w).1 noT).1 with Alone:=-1 }),.arr true 0 2 1 (AE [e.Pid,w.With])]) (AV _) ⟨Ob.le_refl _,Ob.le_refl _,Ob.le_refl _,Ob.le_refl _,AlB (Aea _ rfl rfl),trivial⟩ ?_
   exact AaV (ZC (a (by simpa using h2)))
 ·have hz:(goP e w).2.2≠0:=by simpa using h1
  unfold Fe at hr
  rw[Aly hz,AkQ]at hr
  subst hr
  exact⟨fun _=>⟨trivial,Zq⟩,fun h2=>absurd (by simpa using h2) hz⟩
theorem Aed {out:List Gn}{x:Gn}{G:Nat->List VV}(hG:G 0=EF x){i:Nat}(hi:i<out.length+1):(bif i.blt out.length then IP out i else G (i - out.length))=IP (out++[x]) i :=
 BQ (f:=EF) (d:=default) (l:=out) (r:=[x]) (F:=IP out) (fun _ _=>rfl) (fun j hj=>by
  obtain rfl:j=0:=by simpa using hj
  exact hG) (by simp;omega)
theorem Acf {k:Nat}:EO e (k+1)=EO e k++JP e k:=rfl
theorem Abi (h:Gs e.M e.S):Aj Tryz.prog 79 [] [.agg (Ag e)] [] (BC true (EO e e.S.Procs.length)):=by
 have hp:=h.fits.pl
 refine Ah Al Am Tryz.func79 (by kernel_rfl) rfl (Ad0 _ e) ?_
 refine AB.own 1 3 17 (IP []) rfl ?_
 change AB _ _ (Ux e (EO e 0) ((0:Nat):Int))
 refine AS Al Am e.S.Procs.length (fun k=>Ux e (EO e k) k) (fun _=>True) (by kernel_rfl) (by kernel_rfl) trivial ?_
 intro k hk _ J next
 have hln:=Nn (e:=e) (n:=k)
 have hsuc:=Acf (e:=e) (k:=k)
 refine Ali (Abj _ e (EO e k) k J) ⟨fun hlt=>?_,fun hge=>?_⟩
 ·have hlt':k<e.S.Procs.length:=by have:=A3 hlt;omega
  unfold JP at hsuc
  refine⟨Fd (BH e k),OU (e:=BH e k) h.wf h.small,fun hb=>?_,fun hb=>?_⟩
  ·rw[Aly (by have:=AkW hb;omega),AkQ]at hsuc
   have hp16:e.S.Procs.length<=16:=hp
   refine⟨by omega,next _ hlt' trivial ?_⟩
   rw[hsuc,An (by omega)]
   refine Up.mk (hs':=[.box (Ag e),.arr true 0 ((EO e k).length+1) 17 (IP (EO e k++[(BH e k,(Fd (BH e k)).1)]))]) (AV _) ⟨Ob.le_refl _,AlB fun i hi=>AQ (Aed (x:=(BH e k,(Fd (BH e k)).1)) (G:=fun j=>List.take 17 (List.drop (j*17) (EF (BH e k,(Fd (BH e k)).1)))) rfl hi),trivial⟩ ?_
   unfold Ux
   rw[Ak4]<;>rfl
  ·rw[Alm (by have:=Ak6 hb;omega),AkN,AlN]at hsuc
   refine next _ hlt' trivial (Up.of ?_)
   rw[hsuc,An (by have:e.S.Procs.length<=16:=hp;omega)]
 ·obtain rfl:k=e.S.Procs.length:=by have:=A5 hge;omega
  exact⟨trivial,VV.le_refl _⟩
theorem XH {most:Int}{g:Gn}{r:List Gn}:Mw e most (g::r)=bif decide (g.1.Pid=e.S.Alone) then(some g,most) else Mw e (max most (Fh e g)) r:=rfl
theorem RY (h:Gs e.M e.S):Aj Tryz.prog 56 [] [.agg (Ag e)] [] (BC true (C9 e)):=by
 have hp:e.S.Procs.length<=16:=h.fits.pl
 have hln:=Nn (e:=e) (n:=e.S.Procs.length)
 have hpid:∀ g∈EO e e.S.Procs.length,inX g.1.Pid e.S.Procs.length:=fun g hg=>by
  obtain⟨i,hi,rfl⟩:=RU hg
  exact⟨by show(0:Int)<=i;omega,by show(i:Int)<_;omega⟩
 have hq:∀ r:Option Gn × Int,Mw e 0 (EO e e.S.Procs.length)=r->C9 e=match r with | (some g,_)=>[g] | (none,most)=>(EO e e.S.Procs.length).filter fun g=>decide (Fh e g=most):=fun r hr=>by
  unfold C9
  rw[hr]<;>rfl
 generalize C9 e=out at hq
 refine Ah Al Am Tryz.func56 (by kernel_rfl) rfl (Ae8 out e) ⟨EO e e.S.Procs.length,Abi h,?_⟩
 generalize EO e e.S.Procs.length=L at hln hpid hq
 refine Br Al Am (fun g st=>∃ (k:Nat) (most:Int),k<=L.length/\g=L.length - k/\Mw e most (L.drop k)=Mw e 0 L/\st=YR e L most k) (by kernel_rfl) (by kernel_rfl) ⟨_,Up.of ⟨0,0,AkV _,rfl,rfl,rfl⟩⟩ ?_
 rintro g st ⟨k,most,hk,rfl,hm,rfl⟩
 refine Ali (Acq out e L most k _) ⟨fun hlt=>?_,fun hge=>?_⟩
 ·have hlt':k<L.length:=by have:=A3 hlt;omega
  have hto:(k:Int).toNat=k:=by omega
  rw[hto]
  rw[BN (d:=default) hlt',XH]at hm
  refine⟨⟨by omega,by omega⟩,fun ha=>?_,fun ha=>⟨hpid _ (Aw hlt'),L.length - (k+1),by omega,Up.of ⟨k+1,max most (Fh e (L.getD k default)),by omega,rfl,?_,?_⟩⟩⟩
  ·rw[Aly (by simpa using ha),AkQ]at hm
   have hq:=hq _ hm.symm
   subst hq
   refine⟨trivial,Amg (.inl rfl) fun j hj=>AQ ?_⟩
   obtain rfl:j=0:=by omega
   rfl
  ·rw[Alm (by simpa using ha),AkN]at hm
   exact hm
  ·rw[An (by omega)]<;>rfl
 ·obtain rfl:k=L.length:=by have:=A5 hge;omega
  rw[Amp]at hm
  have hq:out=L.filter fun g=>decide (Fh e g=most):=hq _ hm.symm
  have hz:([]:List Gn)=(L.take 0).filter fun g=>decide (Fh e g=most):=rfl
  refine AB.own 2 7 17 (IP []) rfl ?_
  change AB _ _ (Uv e L ((L.take 0).filter fun g=>decide (Fh e g=most)) most ((0:Nat):Int))
  refine AS Al Am L.length (fun k=>Uv e L ((L.take k).filter fun g=>decide (Fh e g=most)) most k) (fun _=>True) (by kernel_rfl) (by kernel_rfl) trivial ?_
  intro k hk _ J next
  have hl2:((L.take k).filter fun g=>decide (Fh e g=most)).length<=L.length:=Alg (List.length_filter_le ..) (by simp;omega)
  refine Ali (Acp out e L _ most k J) ⟨fun hlt=>?_,fun hge=>?_⟩
  ·have hlt':k<L.length:=by have:=A3 hlt;omega
   have hto:(k:Int).toNat=k:=by omega
   rw[hto]
   have hsuc:((L.take (k+1)).filter fun g=>decide (Fh e g=most))=((L.take k).filter fun g=>decide (Fh e g=most))++([L.getD k default].filter fun g=>decide (Fh e g=most)):=by rw[Ll hlt',List.filter_append]
   generalize ((L.take k).filter fun g=>decide (Fh e g=most))=acc at hl2 hsuc
   refine⟨⟨by omega,by omega⟩,hpid _ (Aw hlt'),fun hb=>⟨by omega,next _ hlt' trivial ?_⟩,fun hb=>next _ hlt' trivial (Up.of ?_)⟩
   ·have hb':decide (Fh e (L.getD k default)=most)=true:=by
     have:(e.S.Procs.getD (L.getD k default).1.Pid.toNat default).Prio=most:=by simpa using hb
     exact Aly this
    rw[List.filter_cons_of_pos (p:=fun g=>decide (Fh e g=most)) hb',List.filter_nil]at hsuc
    rw[hsuc,An (by omega)]
    refine Up.mk (hs':=[.box (Ag e),.arr true 0 (acc.length+1) 17 (IP (acc++[L.getD k default]))]) (AV _) ⟨Ob.le_refl _,AlB fun i hi=>AQ (Aed (x:=L.getD k default) (G:=fun j=>List.take 17 (List.drop (j*17) (EF (L.getD k default)))) rfl hi),trivial⟩ ?_
    unfold Uv
    rw[Ak4]<;>rfl
   ·have hb':¬ decide (Fh e (L.getD k default)=most)=true:=by
     have:¬ (e.S.Procs.getD (L.getD k default).1.Pid.toNat default).Prio=most:=by simpa using hb
     exact fun h=>this (AkW h)
    rw[List.filter_cons_of_neg (p:=fun g=>decide (Fh e g=most)) hb',List.filter_nil,AlN]at hsuc
    rw[hsuc,An (by omega)]
  ·obtain rfl:k=L.length:=by have:=A5 hge;omega
   rw[Al1,← hq]
   exact⟨trivial,VV.le_refl _⟩
end
def JI : Code->Array Oper
 | .region _ ops _=>ops
 | _=>#[]
def isR : Code->Bool
 | .region _ _ false=>true
 | _=>false
def Ajk (N:Nat)(ops:Array Oper):Bool:=ops.toList.all fun o=>match o.dst with
 | some d=>Nat.blt d N
 | none=>true
theorem ZI {N:Nat}{ops:Array Oper}(h:Ajk N ops=true)(i:Nat)(o:Oper)(d:Nat)(ho:ops[i]?=some o)(hd:o.dst=some d):d<N:=by
 have hm:o∈ops.toList:=by
  rw[← Array.getElem?_toList]at ho
  exact Alv ho
 have:=Alt.1 h o hm
 rw[hd]at this
 exact Ak7 this
section
variable {P : Program} {T:TypeId->TE} {Sh:Shs} {N:Nat} {E:AF} {φ:Phi} {a:Act} {w:World} {st:St}
theorem SK (hT:TOk P T){id k:Nat}{ops:Array Oper}{Q:Exit->Act->World->Prop}(hQ:¬ LetsOut Q)(hkl:k<=ops.size)
  (hpre:(Jh (Bp ops k) N&&G9 (Bp ops k))=true) (hng:KF (Bp ops k)=true) (hsuf:(Jh (BM ops k) N&&G9 (BM ops k))=true) (hdst:∀ (i:Nat) o d,ops[i]?=some o->o.dst=some d->d<N) {Y:St->Prop}
  (hx:Ho P T Sh false (Bp ops k) 0 (Bp ops k).toList st [] [] fun st1=>Y (clr (Bp ops k) st1)) (hr:Rel N E st φ a w)
  (hY:∀ st1 φ1 a1 w1,Y st1->Rel N E st1 φ1 a1 w1->Ext w φ w1 φ1->∃ st2 φ2,∃ K3:St->Prop,Rel N E st2 φ2 a1 w1 /\
   (Ho P T Sh false (BM ops k) 0 (BM ops k).toList st2 [] [] fun st3=>K3 (clr (BM ops k) st3))/\∀ st3 φ3 a3 w3,K3 st3->Rel N E st3 φ3 a3 w3->Ext w1 φ2 w3 φ3->Q .normal a3 w3) :
  (Code.region id ops false).wpIn Fence.wide 0 P Q a w:=by
 have hps:(Bp ops k).size=k:=by simp[Bp];omega
 have hss:(BM ops k).size=ops.size:=by simp[BM];omega
 refine wpIn_region ?_
 have e1:List.range ops.size=List.range' 0 k++List.range' k (ops.size - k):=by
  rw[AmY]
  have:=AmZ (s:=0) (m:=k) (n:=ops.size - k)
  rw[Alk]at this
  rw[this]
  congr 1
  omega
 rw[e1]
 refine S7 _ _ _ _ (S6 hng _ (fun i hi=>?_) _ _ ?_)
 ·have hik:i<k:=by simpa using hi
  refine⟨by omega,?_⟩
  unfold Bp
  simp[hik]
 have h1:wpOpsIn Fence.wide 0 P (Bp ops k) (Exit.then (wpOpsIn Fence.wide 0 P ops Q (List.range' k (ops.size - k))) Q) (List.range' 0 (Bp ops k).size) a w:=by
  obtain⟨O,hO,hx'⟩:=DI (Bp ops k).toList 0 st [] [] hx
  rw[AkO]at hpre
  have hR:=JC hpre.1
  obtain⟨hG',hK⟩:=GH (T:=T) (O:=O) (st0:=st) (Bp ops k).toList 0 (by simp) (AkV _) hx'
  have hG:∀ (j:Nat) o,(Bp ops k)[j]?=some o->Hl false T O (Bp ops k) st j o:=fun j o=>hG' j o (AkV _)
  have hQ':¬ LetsOut (Exit.then (wpOpsIn Fence.wide 0 P ops Q (List.range' k (ops.size - k))) Q):=fun h=>hQ h
  refine PX (ro:=none) (ON hpre.2) hQ' _ _ _ (Nc (E:=E) (w0:=w) (φ0:=φ) hT hO hR hG (fun D φ1 a1 w1 hD hI=>?_) (Bp ops k).size 0 φ a w (by omega) ?_)
  ·show wpOpsIn Fence.wide 0 P ops Q (List.range' k (ops.size - k)) a1 w1
   have hrel:=hI.finish hR hG hD
   obtain⟨st2,φ2,K3,hr2,hx2,hKQ⟩:=hY _ _ _ _ hK hrel hI.ext
   refine S5 (k:=k) _ (fun j hj=>by simp at hj;omega) _ _ ?_
   refine PE (k:=k) (N:=N) hdst hkl k 0 _ _ hr2.sz (by omega) ?_
   have:=UU hT hsuf hQ hx2 hr2 hKQ
   rw[hss]at this
   have e2:List.range' 0 ops.size=List.range' 0 k++List.range' k (ops.size - k):=by
    have:=AmZ (s:=0) (m:=k) (n:=ops.size - k)
    rw[Alk]at this
    rw[this]
    congr 1
    omega
   rw[← e2]
   exact this
  ·have e:(fun i=>decide (i<0))=fun _=>false:=by funext i;simp
   rw[e];exact RI.start hr
 rw[hps]at h1
 exact h1
theorem AdY {b:Nat}{p p1 p2:List Nat}{x y:Code}{K:Exit->St->Prop}(h:Sat P N b p1 x (fun e st'=>match e with
  | .normal=>Sat P N b p2 y K st'
  | e=>K e st') st):Sat P N b p (.seq x y) K st :=
 ⟨fun E φ a w hr=>wp_seq (Amb (h.h E φ a w hr) (by
  rintro e a' w' ⟨E',st',φ',h0,h1,h2,h3⟩
  cases e with
  | normal=>exact Amb (h1.h E' φ' a' w' h2) fun e a w ⟨E2,st2,φ2,g0,g1,g2,g3⟩=>⟨E2,st2,φ2,h0.trans g0,g1,g2,h3.trans g3⟩
  | _=>exact⟨E',st',φ',h0,h1,h2,h3⟩))⟩
end
def Cf (b:Nat)(st st':St):Prop:=∀ (N:Nat) (E:AF) (φ:Phi) (a:Act) (w:World),Rel N E st φ a w->∃ φ',Rel N E st' φ' a w/\Fr b w φ w φ'
theorem Cv.cf {b:Nat}{st st':St}(h:Cv st st'):Cf b st st':=fun N E φ a w hr=>let ⟨φ',r,e⟩:=h N E φ a w hr;⟨φ',r,Amf e⟩
theorem Cf.trans {b:Nat}{st st' st'':St}(h:Cf b st st')(k:Cf b st' st''):Cf b st st'':=fun N E φ a w hr =>
 let ⟨φ1,r1,f1⟩:=h N E φ a w hr
 let ⟨φ2,r2,f2⟩:=k N E φ1 a w r1
 ⟨φ2,r2,f1.trans f2⟩
theorem Cf.forget {b:Nat}{st st':St}(keep:List Nat)(hk:okF b keep st=true)(e:Go.Proofs.YtmdcknlpalfhhaaGreatDoor.forget b keep st=st'):Cf b st st':=fun _ _ _ _ _ hr=>by
 subst e
 exact hr.forget hk
section
variable {c : Ctx} {st:St}
theorem Xa (hT:TOk c.P c.T){rel:List Nat}(k:Nat){code:Code}(hs:c.sub rel=.seq code (c.sub (rel++[1])))(hk:c.k rel=c.k (rel++[1]))(hr:isR code=true)(hb:c.L.base=0)(hkl:Nat.ble (k+1) (JI code).size=true)
  (hpre:(Jh (Bp (JI code) (k+1)) c.N&&G9 (Bp (JI code) (k+1)))=true) (hng:KF (Bp (JI code) (k+1))=true) (hsuf:(Jh (BM (JI code) (k+1)) c.N&&G9 (BM (JI code) (k+1)))=true) (hdst:Ajk c.N (JI code)=true) (keep keep2:List Nat)
  (h:Bc ((c.piece (AbC (k+1) code) keep fun _ st1=>∃ st2,Cf 0 st1 st2/\Bc ((c.piece (WO k code) keep2 fun _ st3=>AB c (rel++[1]) st3).goal st2)).goal st)):AB c rel st:=by
 cases code with
 | region id ops bb =>
  cases bb with
  | true=>cases hr
  | false =>
   unfold AB
   rw[hs,hb]
   refine AdY (p1:=[]) (p2:=c.at (rel++[1])) ⟨fun E φ a w hrel=>(wpIn_wide (n:=0)).1 ?_⟩
   refine wpIn_mono (SK (Q:=AiW fun a' w'=>∃ st' φ',AB c (rel++[1]) st'/\Rel c.N E st' φ' a' w'/\Fr 0 w φ w' φ') (Y:=fun st1=>kfI keep (fun _ st1=>∃ st2,Cf 0 st1 st2/\Bc ((c.piece (WO k (.region id ops false)) keep2 fun _ st3=>AB c (rel++[1]) st3).goal st2)) .normal st1) hT UX (Ak7 hkl) hpre hng hsuf (ZI hdst) h.out hrel ?_) ?_
   ·intro st1 φ1 a1 w1 hy hr1 he1
    unfold kfI at hy
    cases hq:okF 0 keep st1 with
    | false=>rw[hq]at hy;exact hy.elim
    | true =>
     rw[hq,AkQ]at hy
     obtain⟨st2,hcv,ha⟩:=hy
     obtain⟨φf,r1,f1⟩:=hr1.forget hq
     obtain⟨φ2,r2,f2⟩:=hcv _ _ _ _ _ r1
     refine⟨st2,φ2,fun st3=>kfI keep2 (fun _ st3=>AB c (rel++[1]) st3) .normal st3,r2,ha.out,fun st3 φ3 a3 w3 h3 r3 e3=>⟨rfl,?_⟩⟩
     have h3:(bif okF 0 keep2 st3 then AB c (rel++[1]) (Go.Proofs.YtmdcknlpalfhhaaGreatDoor.forget 0 keep2 st3) else False):=h3
     cases hq3:okF 0 keep2 st3 with
     | false=>rw[hq3]at h3;exact h3.elim
     | true =>
      rw[hq3,AkQ]at h3
      obtain⟨φ4,r4,f4⟩:=r3.forget hq3
      exact⟨_,φ4,h3,r4,((((Amf he1).trans f1).trans f2).trans (Amf e3)).trans f4⟩
   ·rintro e a' w' ⟨rfl,st',φ',h1,h2,h3⟩
    refine⟨E,st',φ',.refl _,?_,h2,h3⟩
    show Sat c.P c.N 0 _ _ _ st'
    have:=h1
    unfold AB at this
    rw[hb,← hk]at this
    exact this
 | _=>cases hr
end
theorem Ag0 (l':List (Nat × VV))(hs:List Ob)(l:List (Nat × VV)):QM (Aq (l++l') hs) (Aq l hs):=by
 refine⟨fun t=>?_,fun _=>Ob.le_refl _,rfl⟩
 show VV.le (BK t (l++l')) (BK t l)
 induction l with
 | nil=>exact fun _ _ _ _ _=>.dead
 | cons p l ih =>
  obtain⟨j,x⟩:=p
  simp only[Al2,BK]
  cases Nat.beq t j with
  | true=>exact VV.le_refl _
  | false=>exact ih
section
variable {c : Ctx} {E:AF} {J:JT} {K:Exit->Option Nat->St->Prop} {k:Option Nat} {st:St}
theorem C2.forget (hJ:Hz J){code:Code}(keep:List Nat)(hk:okF 0 keep st=true)(h:C2 c.P c.N E J code K k (Go.Proofs.YtmdcknlpalfhhaaGreatDoor.forget 0 keep st)):C2 c.P c.N E J code K k st :=
 ⟨fun S _ a w hi=>let ⟨φ',hi'⟩:=hi.forget hJ hk;h.h S φ' a w hi'⟩
theorem Jy (hJ:Hz J)(hT:TOk c.P c.T){code:Code}(hr:isR code=true)(kk tf d:Nat){i n:Nat}{oc:Oper}(x1 x2:Operand){tys:Array TypeId}{l:Nat}{xs:Nat->List VV}
  (hY:∀ k S T w1 vs,k<n->J (some k) S T w1->(∀ b,S b->¬ T b)->Gd E (U S T) w1->CT w1 (E.add (U S T)) none (xs k) vs->YieldAt Fence.wide 0 c.P l vs w1 fun e w2 =>
   (e=.returned (.bool true)/\∃ S',J (some (k+1)) S' T w2/\Chg w1 S w2 S')∨(e=.returned (.bool false)/\∃ S',J none S' T w2/\Chg w1 S w2 S'))
  (hpre:(Jh (Bp (JI code) kk) c.N&&G9 (Bp (JI code) kk))=true) (hng:KF (Bp (JI code) kk)=true) (hsuf:(Jh (BM (JI code) (kk+1)) c.N&&G9 (BM (JI code) (kk+1)))=true) (hdst:Ajk c.N (JI code)=true)
  (hoc:(JI code)[kk]?=some oc) (hop:oc.op=.call { callee:=.value (.tmp tf),args:=#[x1,x2],argTypes:=tys }) (hgd:oc.guard=none) (hd:oc.dst=some d) (hi:i<n) (keep keep2:List Nat)
  (h:(c.piece (AbC kk code) keep fun _ st1=>∃ l1 hs1,st1=Aq l1 hs1/\BK tf l1=.fn (.yield l) []/\xs i=[(Aq l1 hs1).val x1,(Aq l1 hs1).val x2]/\(xs i).all VV.memA=true /\
   ∀ b,(c.piece (WO kk code) keep2 fun _ st3=>K .normal (bif b then some (i+1) else none) st3).goal (Aq ((d,.sc (.bool b))::l1) hs1)).goal st) :
  C2 c.P c.N E J code K (some i) st:=by
 cases code with
 | region id ops b =>
  cases b with
  | false=>exact W9 (ops:=ops) hJ hT hY hpre hng hsuf (ZI hdst) hoc hop hgd hd hi keep keep2 h
  | true=>cases hr
 | _=>cases hr
end
section
variable {m : D.Model} {s:D.State} {e:D.Env} {w:Wy}
noncomputable def cEv:Ctx:=fc AO AM Tryz.f55 [] (.tup [])
theorem Akw : tlC 3 (cEv.sub [])=.block 0 (.loop (cEv.sub [1,1,1,1,0,0])):=by kernel_rfl
theorem Akv : tlC 1 (cEv.sub [1,1,1,1,0,0])=.seq (.block 1 (cEv.sub [1,1,1,1,0,0,1,1,0,0])) (cEv.sub [1,1,1,1,0,0,1,1,1]):=by kernel_rfl
theorem Aku : tlC 1 (cEv.sub [1,1,1,1,0,0,1,1,0,0])=.block 2 (.loop (cEv.sub [1,1,1,1,0,0,1,1,0,0,1,1,0,0])):=by kernel_rfl
theorem Akt : tlC 1 (cEv.sub [1,1,1,1,0,0,1,1,0,0,1,1,0,0])=.seq (.block 3 (cEv.sub [1,1,1,1,0,0,1,1,0,0,1,1,0,0,1,1,0,0])) (cEv.sub [1,1,1,1,0,0,1,1,0,0,1,1,0,0,1,1,1]):=by kernel_rfl
theorem Aks : tlC 0 (cEv.sub [1,1,1,1,0,0,1,1,0,0,1,1,0,0,1,1,0,0])=.seq (cEv.sub [1,1,1,1,0,0,1,1,0,0,1,1,0,0,1,1,0,0,1,0]) (.cond (.tmp 48) .ret .skip):=by kernel_rfl
theorem Akx : ∃ oc tys,(JI (cEv.sub [1,1,1,1,0,0,1,1,0,0,1,1,0,0,1,1,0,0,1,0]))[4]?=some oc/\oc.op=.call { callee:=.value (.tmp 43),args:=#[.tmp 45,.tmp 46],argTypes:=tys }/\oc.guard=none/\oc.dst=some 47:=⟨_,_,rfl,rfl,rfl,rfl⟩
def ZY (m:D.Model)(s:D.State)(k:Nat):List VV:=[.agg (Ag ((Dx m s).getD k default).1),.agg (A0 ((Dx m s).getD k default).2)]
theorem VY (h:Gs m s):Hw m s=CD m s s.Procs.length:=by
 unfold Hw
 rw[h.check]<;>rfl
theorem X9 (h:Gs m s):LR Tryz.prog 55 [.box (Ae m),.box (Af s)] [.bp 0 0,.bp 1 0] (Dx m s).length (ZY m s):=by
 refine Zt (c:=cEv.sub []) Tryz.func55 (by kernel_rfl) rfl (by decide) ?_
 intro l E J hJ hY
 have hgs:∀ t a,Gs (D.Env.mk m s 0 t a).M (D.Env.mk m s 0 t a).S:=fun _ _=>h
 have hL:Gr m s=bif decide (0<(C9 ⟨m,s,0,false,CD m s s.Procs.length⟩).length) then C9 ⟨m,s,0,false,CD m s s.Procs.length⟩ else C9 ⟨m,s,0,true,CD m s s.Procs.length⟩:=by
  unfold Gr
  rw[VY h]
 have hev:Dx m s=Cy (Gr m s):=rfl
 have hlen:=Qf h
 have hlen2:∀ g∈Gr m s,g.2.length<=16778240:=fun g hg=>by
  obtain⟨i,t,hi,rfl⟩:=LA h hg
  exact KA (h.pid (i:=i) (t:=t) (a:=CD m s s.Procs.length) ⟨by omega,by omega⟩).1
 have key:C2 cEv.P cEv.N E J (tlC 3 (cEv.sub [])) (fun e k _=>(e=.normal∨e=.ret)/\(k=some (Dx m s).length∨k=none)) (some 0) (Py l (Gr m s) 0):=by
  have hxs:∀ k,ZY m s k=[.agg (Ag ((Dx m s).getD k default).1),.agg (A0 ((Dx m s).getD k default).2)]:=fun _=>rfl
  generalize ZY m s=xs at hY hxs
  rw[hev]at hY hxs ⊢
  generalize Gr m s=L at hY hlen hlen2 hxs
  clear hL hev
  rw[Akw]
  refine Ft (M4 hJ (fun g k st=>∃ i,i<=L.length/\g=L.length - i/\k=some (Mt L i)/\st=Py l L i) ⟨_,Up.of ⟨0,AkV _,rfl,rfl,rfl⟩⟩ ?_)
  rintro g k st ⟨i,hi,rfl,rfl,rfl⟩
  refine DU (c:=cEv) hJ Al Am [0,30,31,32] 1 (by kernel_rfl) (by kernel_rfl) ((Ahq l L i _).mpr ⟨fun hlt=>?_,fun hge=>?_⟩)
  ·have hlt':i<L.length:=by have:=A3 hlt;omega
   have hto:(i:Int).toNat=i:=by omega
   have hg2:=hlen2 _ (Aw (d:=default) hlt')
   have hpa:=fun j=>Agy (L:=L) (i:=i) (j:=j) hlt'
   have hos:=Aey hlt'
   show C2 cEv.P cEv.N E J (tlC 1 (cEv.sub [1,1,1,1,0,0])) _ _ _
   rw[Akv]
   refine EW (Ft (DU (c:=cEv) hJ Al Am [0,30,31,32,8,37,38,39] 1 (by kernel_rfl) (by kernel_rfl) ((Ahp l L i _).mpr ⟨⟨by omega,by omega⟩,?_⟩)))
   rw[hto]
   generalize L.getD i default=gn at hg2 hpa hos
   show C2 cEv.P cEv.N E J (tlC 1 (cEv.sub [1,1,1,1,0,0,1,1,0,0])) _ _ _
   rw[Aku]
   refine Ft (M4 hJ (fun g k st=>∃ j,j<=gn.2.length/\g=gn.2.length - j/\k=some (Mt L i+j)/\st=Uw l L i gn j) ⟨_,Up.of ⟨0,AkV _,rfl,rfl,rfl⟩⟩ ?_)
   rintro g k st ⟨j,hj,rfl,rfl,rfl⟩
   refine DU (c:=cEv) hJ Al Am [0,30,31,32,8,37,38,39] 1 (by kernel_rfl) (by kernel_rfl) ((Aho l L i gn j _).mpr ⟨fun hjl=>?_,fun hjg=>?_⟩)
   ·have hjl':j<gn.2.length:=by have:=A3 hjl;omega
    have hjo:(j:Int).toNat=j:=by omega
    obtain⟨hp1,hp2⟩:=hpa j hjl'
    show C2 cEv.P cEv.N E J (tlC 1 (cEv.sub [1,1,1,1,0,0,1,1,0,0,1,1,0,0])) _ _ _
    rw[Akt]
    refine EW (Ft (DU (c:=cEv) hJ Al Am [0,30,31,32,8,37,38,39,10] 0 (by kernel_rfl) (by kernel_rfl) ((Ahn l L i gn j _).mpr ⟨⟨by omega,by omega⟩,?_⟩)))
    rw[hjo]
    show C2 cEv.P cEv.N E J (tlC 0 (cEv.sub [1,1,1,1,0,0,1,1,0,0,1,1,0,0,1,1,0,0])) _ _ _
    rw[Aks]
    obtain⟨oc,tys,o1,o2,o3,o4⟩:=Akx
    refine EW (Jy (c:=cEv) hJ Al (by kernel_rfl) 4 43 47 (.tmp 45) (.tmp 46) hY (by kernel_rfl) (by kernel_rfl) (by kernel_rfl) (by kernel_rfl) o1 o2 o3 o4 hp1 [0,30,31,32,8,37,38,39,43,45,46] [0,30,31,32,8,37,38,39,48] ((Ahm l L i gn j _ _).mpr ⟨_,_,rfl,rfl,?_,?_,fun b=>(Ahl l L i gn j _ b _).mpr ?_⟩))
    ·rw[hxs,hp2]<;>rfl
    ·rw[hxs]<;>rfl
    ·refine M5 (t:=48) (b:=!b) rfl (fun hb=>?_) fun hb=>?_
     ·obtain rfl:b=false:=by simpa using hb
      exact PH ⟨.inr rfl,.inr rfl⟩
     ·obtain rfl:b=true:=by simpa using hb
      refine M3 ?_
      show C2 cEv.P cEv.N E J (cEv.sub [1,1,1,1,0,0,1,1,0,0,1,1,0,0,1,1,1]) _ _ _
      refine C2.cv hJ (Ag0 [(48,Ac !true)] _ [(0,yV l),(30,BC true L),(31,Aa L.length),(32,Aa i),(8,.bp 0 0),(37,A6 true gn.2),(38,Aa gn.2.length),(39,Aa j)]).cv ?_
      refine IM (c:=cEv) hJ Al Am (by kernel_rfl) [0,30,31,32,8,37,38,39] ((Ahk l L i gn j _).mpr ?_)
      refine⟨gn.2.length - (j+1),by omega,Up.of ⟨j+1,by omega,rfl,rfl,?_⟩⟩
      rw[An (by omega)]
   ·obtain rfl:j=gn.2.length:=by have:=A5 hjg;omega
    show C2 cEv.P cEv.N E J (cEv.sub [1,1,1,1,0,0,1,1,1]) _ _ _
    refine C2.forget (c:=cEv) hJ [0,30,31,32] rfl ?_
    change C2 cEv.P cEv.N E J (cEv.sub [1,1,1,1,0,0,1,1,1]) _ _ (Py l L i)
    refine IM (c:=cEv) hJ Al Am (by kernel_rfl) [0,30,31,32] ((Ahi l L i _).mpr ?_)
    refine⟨L.length - (i+1),by omega,Up.of ⟨i+1,by omega,rfl,by rw[hos],?_⟩⟩
    rw[An (by omega)]
  ·obtain rfl:i=L.length:=by have:=A5 hge;omega
   refine⟨.inl rfl,.inl ?_⟩
   rw[AgE]
 refine DU (c:=cEv) hJ Al Am [0,30,31,32] 3 (by kernel_rfl) (by kernel_rfl) ((Ahj m s l _).mpr ⟨(CD m s s.Procs.length,0),Sc h.wf h.small h.check,C9 ⟨m,s,0,false,CD m s s.Procs.length⟩,RY (hgs _ _),fun hb=>⟨C9 ⟨m,s,0,true,CD m s s.Procs.length⟩,RY (hgs _ _),?_⟩,fun hb=>?_⟩)
 ·rw[Alm (by have:((C9 ⟨m,s,0,false,CD m s s.Procs.length⟩).length:Int)=0:=(by simpa using hb);omega),AkN]at hL
  rw[hL]at key
  exact key
 ·rw[Aly (by have:((C9 ⟨m,s,0,false,CD m s s.Procs.length⟩).length:Int)≠0:=(by simpa using hb);omega),AkQ]at hL
  rw[hL]at key
  exact key
end
def rfI : Code->Nat
 | .block i _=>i
 | _=>0
def rfA : Code->Code
 | .block _ (.rangeFunc _ _ a _)=>a
 | _=>.skip
def rfB : Code->Code
 | .block _ (.rangeFunc _ _ _ b)=>b
 | _=>.skip
theorem Ry {c:Ctx}(hT:TOk c.P c.T)(hmx:c.P.follows .mixedOrders=true){rel:List Nat}{st:St}(id tg:Nat)(ps:List Tmp)(assign body:Code)(hl:c.sub rel=.block id (.rangeFunc (.tmp tg) ps.toArray assign body))(hb:c.L.base=0)
  (hB:(NY c.N assign&&JB c.N body)=true) (hps:ps.Nodup/\∀ p,p∈ps->p<c.N) {gf:Nat} (eg:Hm c.P gf) {hi:List Ob} {caps:List VV} {n:Nat} {xs:Nat->List VV} (hit:LR c.P gf hi caps n xs)
  (hxs:∀ k,(xs k).length=ps.length) (ic ii:List Nat) (h1:Ex st.nx ic=true) (h2:Ex st.nx ii=true) (h3:(ic.all fun i=>!(ii.any (Nat.beq i)))=true)
  (l0:List (Nat × VV)) (nb:Nat) (hsJ:Nat->List Ob) (hn:∀ k,(hsJ k).length=nb) (hl0:Uu nb l0=true) (ht:∀ t,VV.le (Iq st ic (st.t t)) (BK t l0)) (hh:leO (ic.map (D9 st ic)) (hsJ 0))
  (hg:VV.le (Iq st ii (st.t tg)) (.fn (.func gf) caps)) (hhi:leO (ii.map (D9 st ii)) hi)
  (round:∀ k,k<n->Bc ((c.rg rel nb l0 (hsJ (k+1))).goal (Aq (ps.zip (xs k)++l0) (hsJ k)))) (done:Bc ((c.after rel).goal (Aq l0 (hsJ n)))):AB c rel st :=
 Xc hT hmx id tg ps assign body hl hb hB hps eg hit hxs ic ii h1 h2 h3 l0 nb hsJ hn hl0 ht hh hg hhi (fun k hk=>(round k hk).out) done.out
theorem Zr (x:VV):VV.le x .dead:=fun _ _ _ _ _=>.dead
theorem GQ {α:Type}{l:List α}{k:Nat}{d:α}(h:k<l.length):l.take (k+1)=l.take k++[l.getD k d]:=by
 rw[AmR];simp[List.getD,h]
theorem AjG : [19,20].Nodup/\∀ p,p∈[19,20]->p<(Tryz.f27).ntmps:=by decide
section
variable {m : D.Model} {s:D.State} {e:D.Env} {w:Wy}
theorem X8 : Aj Tryz.prog 39 [] [.agg (Ae m),.agg (Af s)] [.box (Ae m),.box (Af s)] (.fn (.func 55) [.bp 0 0,.bp 1 0]) :=
 Ah Al Am Tryz.func39 (by kernel_rfl) rfl (Ahb m s) ⟨Ea _,VV.le_refl _⟩
theorem AiH {out:List Nx}{x:Nx}{G:Nat->List VV}(hG:G 0=Bt x){i:Nat}(hi:i<out.length+1):(bif i.blt out.length then C8 out i else G (i - out.length))=C8 (out++[x]) i :=
 BQ (f:=Bt) (d:=default) (l:=out) (r:=[x]) (F:=C8 out) (fun _ _=>rfl) (fun j hj=>by
  obtain rfl:j=0:=by simpa using hj
  exact hG) (by simp;omega)
def Ab9 (l:List Nx):List Ob:=[.box [.ow 1 0 l.length],.arr true 0 l.length 15 (C8 l)]
theorem AdC (L l l2:List Nx):((fc AO Fb Tryz.f27 [] (.tup [AU true (L,(0:Int)).1,Aa (L,(0:Int)).2])).rg [1,1,1,0,1] 2 [(7,.bp 0 0)] (Ab9 l2)).goal (Aq ([19,20].zip [.agg (Ag e),.agg (A0 w)]++[(7,.bp 0 0)]) (Ab9 l)) =
  ((fc AO Fb Tryz.f27 [] (.tup [AU true (L,(0:Int)).1,Aa (L,(0:Int)).2])).rg [1,1,1,0,1] 2 [(7,.bp 0 0)] [.box [.ow 1 0 l2.length],.arr true 0 l2.length 15 (C8 l2)]).goal (Aq [(19,.agg (Ag e)),(20,.agg (A0 w)),(7,.bp 0 0)] [.box [.ow 1 0 l.length],.arr true 0 l.length 15 (C8 l)]):=by kernel_rfl
theorem Aic {L l:List Nx}{x:Nx}(h:Aj Tryz.prog 40 [] [.agg (Ag e),.agg (A0 w)] [] (.agg (Bt x)))(hl:l.length<=285230080):Bc (((fc AO Fb Tryz.f27 [] (.tup [AU true (L,(0:Int)).1,Aa (L,(0:Int)).2])).rg [1,1,1,0,1] 2 [(7,.bp 0 0)] (Ab9 (l++[x]))).goal (Aq ([19,20].zip [.agg (Ag e),.agg (A0 w)]++[(7,.bp 0 0)]) (Ab9 l))):=by
 refine Ali ((AdC L l (l++[x])).trans (Ad6 (L,0) e w l (l++[x]))) ⟨x,h,by omega,?_,trivial⟩
 rw[Ak4]
 exact⟨Ob.le_refl _,AlB fun i hi=>AQ (AiH (x:=x) (G:=fun i=>List.take 15 (List.drop (i*15) (Bt x))) rfl hi),trivial⟩
theorem Af5 {L l:List Nx}(hl:l=L):Bc (((fc AO Fb Tryz.f27 [] (.tup [AU true (L,(0:Int)).1,Aa (L,(0:Int)).2])).after [1,1,1,0,1]).goal (Aq [(7,.bp 0 0)] (Ab9 l))):=by
 subst hl
 exact Ali (Ad5 (l,0) l) ⟨trivial,VV.le_refl _⟩
theorem WV (h:Gs m s):Aj Tryz.prog 27 [] [.agg (Ae m),.agg (Af s)] [] (.tup [AU true (C6 m s).1,Aa (C6 m s).2]):=by
 have hq:C6 m s=((Dx m s).map fun p=>Fe p.1 p.2,0):=by
  unfold C6
  rw[h.check]<;>rfl
 have hlen:=R4 h
 have hst:∀ k,k<(Dx m s).length->Aj Tryz.prog 40 [] (ZY m s k) [] (.agg (Bt (Fe ((Dx m s).getD k default).1 ((Dx m s).getD k default).2))):=fun k hk=>by
  obtain⟨_,_,h3,h4,h5⟩:=R3 h (Aw (d:=default) hk)
  exact AaW h3 h4 h5
 refine Ah Al Am Tryz.func27 (by kernel_rfl) rfl (Agi (C6 m s) m s) ⟨Ci m s,Gx h.wf h.small (fun h=>(G3 h).clp),fun h1=>?_,fun _=>⟨(m,s),X8,?_⟩⟩
 ·rw[h.check]at h1;cases h1
 rw[hq]
 refine AB.cv (AmP 0 0 15 (C8 []) rfl rfl) ?_
 have hit:=X9 h
 have hx2:∀ k,ZY m s k=[.agg (Ag ((Dx m s).getD k default).1),.agg (A0 ((Dx m s).getD k default).2)]:=fun _=>rfl
 generalize ZY m s=xs at hit hst hx2
 generalize Dx m s=L at hit hst hx2 hlen
 refine Ry Al Am (rfI ((fc AO Fb Tryz.f27 [] (.tup [.nl,.nl])).sub [1,1,1,0,1])) 18 [19,20] (rfA ((fc AO Fb Tryz.f27 [] (.tup [.nl,.nl])).sub [1,1,1,0,1])) (rfB ((fc AO Fb Tryz.f27 [] (.tup [.nl,.nl])).sub [1,1,1,0,1])) (by kernel_rfl) rfl (by kernel_rfl) AjG
  ⟨_,Tryz.func55,rfl,rfl⟩ hit (fun k=>by rw[hx2]<;>rfl) [0,3] [1,2] rfl rfl rfl [(7,.bp 0 0)] 2 (fun k=>Ab9 ((L.take k).map fun p=>Fe p.1 p.2)) (fun _=>rfl) rfl (fun t=>?_) ?_ ?_ ?_ (fun k hk=>?_) ?_
 ·show VV.le (Iq _ _ (BK t [(7,.bp 0 0),(18,_)])) (BK t [(7,.bp 0 0)])
  simp only[BK]
  cases Nat.beq t 7 with
  | true=>exact VV.le_refl _
  | false=>exact Zr _
 ·exact Ea _
 ·exact VV.le_refl _
 ·exact Ea _
 ·have hs1:=hst k hk
  rw[hx2]at hs1 ⊢
  have htk:(L.take (k+1)).map (fun p=>Fe p.1 p.2)=(L.take k).map (fun p=>Fe p.1 p.2)++[Fe (L.getD k default).1 (L.getD k default).2]:=by
   rw[GQ (d:=default) hk,AmJ]<;>rfl
  have hl1:((L.take k).map (fun p=>Fe p.1 p.2)).length=k:=by simp;omega
  rw[htk]
  generalize (L.take k).map (fun p=>Fe p.1 p.2)=l at hl1
  exact Aic hs1 (by omega)
 ·exact Af5 (by rw[Al1])
end
theorem Aj.froz {P:Program}{f:FuncId}{xs:List VV}{hs1:List Ob}{r r2:VV}{ids:List Nat}(k:Nat)(h:Aj P f [] xs hs1 r)(hp:Fw (Bn hs1) k r=some (r2,ids))(hm:r2.memA=true):Aj P f [] xs [] r2:=by
 refine⟨h.callable,fun w E φ vs hz hH hφ hs0=>(h.call w E φ vs hz hH hφ hs0).mono ?_⟩
 rintro e w' ⟨v,φ',rfl,h1,h2,h3,h4⟩
 have h5:=IQ (ids:=ids) h1 _ r r2 v ids h4 hp fun _ h=>h
 have h6:V w' (E.up (B9 ids φ')) (some (B9 ids φ')) r2 v:=V.held (V.unhold h5)
 have hno:∀ {b:Nat},¬ Own (fun _=>none:Phi) b:=fun{b} h=>by
  obtain⟨id,hb⟩:=h
  obtain⟨p,hp,_⟩:=AI.1 hb
  cases hp
 refine⟨v,fun _=>none,rfl,⟨h1.sub,fun _ _ e=>(by cases e),fun i j k hi _=>absurd ⟨i,hi⟩ hno,fun k hk=>absurd hk hno⟩,⟨h2.os,h2.tape,h2.output,h2.size,h2.block,fun k hk=>absurd hk hno,fun id p hid=>absurd hid (AlZ _)⟩,fun id=>⟨fun h=>absurd rfl h,fun h=>absurd h (AlZ _)⟩,V.memA h6 hm ?_⟩
 exact fun b hb=>hb.elim .inl fun h=>absurd h hno
theorem AB.forget {c:Ctx}{rel:List Nat}{st:St}(keep:List Nat)(hk:okF c.L.base keep st=true)(h:AB c rel (Go.Proofs.YtmdcknlpalfhhaaGreatDoor.forget c.L.base keep st)):AB c rel st :=
 ⟨fun E _ a w hr=>let ⟨φ1,r1,f1⟩:=hr.forget hk
  Amb (h.h E φ1 a w r1) fun _ _ _ ⟨E',st',φ',h0,h1,h2,h3⟩=>⟨E',st',φ',h0,h1,h2,f1.trans h3⟩⟩
section
variable {m : D.Model} {s:D.State} {e:D.Env} {w:Wy}
theorem Qn (hf:Fit s):Aj Tryz.prog 14 [] [.agg (Af s)] [] (.agg (Af s)):=(Ns hf).froz (ids:=[0,1]) 6 (by kernel_rfl) (by kernel_rfl)
theorem Pr {c:Int}:Aj Tryz.prog 28 [] [Aa c] [] (.agg (Dl (C1 c))) :=
 Ah Al Am Tryz.func28 (by kernel_rfl) rfl (Afl (C1 c) c) ⟨trivial,VV.le_refl _⟩
theorem Yk (hw:Av e.M)(hs:Be e.S){t:D.Stmt}:Aj Tryz.prog 42 [] [.agg (Ag e),.agg (Ar t)] [] (.agg (Ee (DG e t))):=by
 have hq:DG e t=if t.Kind=1 then(decide ((AY e t.A).1≠0)||decide ((AY e t.A).2≠0),(AY e t.A).2) else if t.Kind=3 then(true,bif decide ((AY e t.A).2=0)&&decide ((AY e t.A).1=0) then 50 else(AY e t.A).2) else(decide (t.Kind=8),0):=rfl
 have hev:=G8 hw hs t.A
 generalize DG e t=r at hq
 generalize AY e t.A=y at hq hev
 refine Ah Al Am Tryz.func42 (by kernel_rfl) rfl (AcK r e t) ⟨fun h1=>⟨y,hev,?_⟩,fun h1=>⟨fun h2=>⟨y,hev,fun h3=>?_,fun h3=>?_⟩,fun h2=>?_⟩⟩
 ·rw[Alj (by simpa using h1)]at hq
  subst hq
  refine⟨trivial,Al0 ?_⟩
  rw[A7,AK,AK]<;>rfl
 ·rw[Ak3 (by simpa using h1),Alj (by simpa using h2)]at hq
  rw[A8]at h3
  rw[show(decide (y.2=0)&&decide (y.1=0))=true by simpa using h3,AkQ]at hq
  subst hq
  exact⟨trivial,VV.le_refl _⟩
 ·rw[Ak3 (by simpa using h1),Alj (by simpa using h2)]at hq
  rw[A8]at h3
  rw[show(decide (y.2=0)&&decide (y.1=0))=false by simpa using h3,AkN]at hq
  subst hq
  exact⟨trivial,VV.le_refl _⟩
 ·rw[Ak3 (by simpa using h1),Ak3 (by simpa using h2)]at hq
  subst hq
  refine⟨trivial,Al0 ?_⟩
  rw[show(t.Kind==8)=decide (t.Kind=8) by rw[Alc];simp]<;>rfl
theorem AiF {out:List Wc}{x:Wc}{G:Nat->List VV}(hG:G 0=Ee x){i:Nat}(hi:i<out.length+1):(bif i.blt out.length then JA out i else G (i - out.length))=JA (out++[x]) i :=
 BQ (f:=Ee) (d:=default) (l:=out) (r:=[x]) (F:=JA out) (fun _ _=>rfl) (fun j hj=>by
  obtain rfl:j=0:=by simpa using hj
  exact hG) (by simp;omega)
def N8 (m:D.Model)(s:D.State)(k i:Nat):Wc:=bif Nat.blt i k then Jg m s i else DG (Cs m s) ((Ao m s).getD i default).S
def FS (m:D.Model)(s:D.State)(k:Nat):List Wc:=(List.range (Ao m s).length).map (N8 m s k)
theorem Ia {k:Nat}:(FS m s k).length=(Ao m s).length:=by simp[FS]
theorem O3 {k j:Nat}(hj:j<(Ao m s).length):(FS m s k).getD j default=N8 m s k j:=by
 simp[FS,List.getD,hj]
theorem Ww : FS m s 0=(Ao m s).map fun t=>DG (Cs m s) t.S:=by
 refine List.ext_getElem (by simp[FS]) fun i h1 h2=>?_
 have hi:i<(Ao m s).length:=by simpa[FS] using h1
 simp only[FS,List.getElem_map,List.getElem_range]
 show N8 m s 0 i=_
 unfold N8
 rw[show Nat.blt i 0=false from rfl,AkN]
 simp[List.getD,hi]
theorem Aar : FS m s (Ao m s).length=DD m s:=by
 refine Al3 fun i hi=>?_
 unfold N8
 rw[E8 (AlD.1 hi)]
theorem Q7 {k:Nat}:N8 m s k k=DG (Cs m s) ((Ao m s).getD k default).S:=by
 unfold N8;rw[GC (AkU _)]
theorem Q6 {k j:Nat}(h:j≠k):N8 m s (k+1) j=N8 m s k j:=by
 unfold N8
 rcases Alw j k with hl | hl
 ·rw[E8 hl,E8 (by omega)]
 ·rw[GC hl,GC (by omega)]
theorem T5 {k:Nat}:N8 m s (k+1) k=Jg m s k:=by unfold N8;rw[E8 (AlP _)]
theorem Ql (h:Gs m s)(hc:0<=m.Claim):Aj Tryz.prog 29 [] [.agg (Ae m),.agg (Af s)] [] (Cl true (DD m s)):=by
 obtain⟨c1,c2,c3⟩:=Qp h hc
 obtain⟨w1,w2,w3⟩:=MJ h hc
 have hd:=fun t=>Yk (e:=Cs m s) (t:=t) h.wf h.small
 refine Ah Al Am Tryz.func29 (by kernel_rfl) rfl (AcF (DD m s) m s) ⟨(Hw m s,0),by rw[VY h];exact Sc h.wf h.small h.check,⟨hc,c1⟩,⟨c2,c3⟩,?_⟩
 refine AB.own 1 8 2 (JA []) rfl ?_
 change AB _ _ (Af4 (Cs m s) (((Ao m s).take 0).map fun t=>DG (Cs m s) t.S) (((Ao m s).take 0).any fun t=>(DG (Cs m s) t.S).1) (Ao m s) ((0:Nat):Int))
 refine AS Al Am (Ao m s).length (fun k=>Af4 (Cs m s) (((Ao m s).take k).map fun t=>DG (Cs m s) t.S) (((Ao m s).take k).any fun t=>(DG (Cs m s) t.S).1) (Ao m s) k) (fun _=>True) (by kernel_rfl) (by kernel_rfl) trivial ?_
 intro k hk _ J next
 have hlk:(((Ao m s).take k).map fun t=>DG (Cs m s) t.S).length=k:=by simp;omega
 refine Ali (Yf (DD m s) m s (Cs m s) _ _ (Ao m s) k J) ⟨fun hlt=>?_,fun hge=>?_⟩
 ·have hlt':k<(Ao m s).length:=by have:=A3 hlt;omega
  have hto:(k:Int).toNat=k:=by omega
  rw[hto]
  have htk:(Ao m s).take (k+1)=(Ao m s).take k++[(Ao m s).getD k default]:=GQ hlt'
  refine⟨⟨by omega,by omega⟩,DG (Cs m s) ((Ao m s).getD k default).S,hd _,by omega,next _ hlt' trivial ?_⟩
  rw[htk,AmJ,List.any_append,AlH,Ami,Am2,List.any_nil,Bool.or_false,An (by omega)]
  refine Up.mk (l':=[(7,.bp 0 0),(8,.ow 1 0 ((((Ao m s).take k).map fun t=>DG (Cs m s) t.S).length+1)),(9,Ac ((((Ao m s).take k).any fun t=>(DG (Cs m s) t.S).1)||(DG (Cs m s) ((Ao m s).getD k default).S).1)),(10,Au true (Ao m s)),(38,Au true (Ao m s)),(39,Aa (Ao m s).length),(40,Aa ((k+1:Nat):Int))])
   (hs':=[.box (Ag (Cs m s)),.arr true 0 ((((Ao m s).take k).map fun t=>DG (Cs m s) t.S).length+1) 2 (JA ((((Ao m s).take k).map fun t=>DG (Cs m s) t.S)++[DG (Cs m s) ((Ao m s).getD k default).S]))])
   ⟨⟨rfl,VV.le_refl _⟩,⟨rfl,VV.le_refl _⟩,⟨rfl,Al0 (by rw[A7])⟩,⟨rfl,VV.le_refl _⟩,⟨rfl,VV.le_refl _⟩,⟨rfl,VV.le_refl _⟩,⟨rfl,VV.le_refl _⟩,trivial⟩ ⟨Ob.le_refl _,AlB fun i hi=>AQ (AiF (x:=DG (Cs m s) ((Ao m s).getD k default).S) (G:=fun i=>List.take 2 (List.drop (i*2) (Ee (DG (Cs m s) ((Ao m s).getD k default).S)))) rfl hi),trivial⟩ ?_
  unfold Af4
  rw[Ak4]<;>rfl
 ·obtain rfl:k=(Ao m s).length:=by have:=A5 hge;omega
  rw[Al1,← Ww]
  have hsm:((Ao m s).any fun t=>(DG (Cs m s) t.S).1)=KY m s:=rfl
  rw[hsm]
  refine AS Al Am (Ao m s).length (fun k=>Af3 (FS m s k) (KY m s) (Ao m s) k) (fun _=>True) (by kernel_rfl) (by kernel_rfl) trivial ?_
  intro k hk _ J next
  refine Ali (Ye (DD m s) (FS m s k) (KY m s) (Ao m s) k J) ⟨fun hlt=>?_,fun hge=>?_⟩
  ·have hlt':k<(Ao m s).length:=by have:=A3 hlt;omega
   have hto:(k:Int).toNat=k:=by omega
   rw[hto]
   have hw:Jg m s k=bif decide (((Ao m s).getD k default).S.Kind=7)&&!KY m s then(true,(DG (Cs m s) ((Ao m s).getD k default).S).2) else DG (Cs m s) ((Ao m s).getD k default).S:=rfl
   refine⟨⟨by omega,by omega⟩,fun hb=>⟨⟨by omega,by rw[Ia];omega⟩,next _ hlt' trivial ?_⟩,fun hb=>next _ hlt' trivial (Up.of ?_)⟩
   ·rw[A8,show((((Ao m s).getD k default).S.Kind==7)&&!KY m s)=(decide (((Ao m s).getD k default).S.Kind=7)&&!KY m s) by rw[show(((Ao m s).getD k default).S.Kind==7)=decide (((Ao m s).getD k default).S.Kind=7) by rw[Alc];simp]]at hb
    rw[hb,AkQ]at hw
    rw[An (by omega),O3 hlt',Q7]
    refine Up.mk (l':=[(8,.ow 0 0 (FS m s (k+1)).length),(9,Ac (KY m s)),(58,Au true (Ao m s)),(59,Aa (Ao m s).length),(60,Aa ((k+1:Nat):Int))]) (hs':=[.arr true 0 (FS m s (k+1)).length 2 (JA (FS m s (k+1)))]) ?_ ?_ rfl
    ·rw[Ia,Ia];exact AV _
    ·rw[Ia,Ia]
     refine⟨AlB fun j hj=>AQ ?_,trivial⟩
     show _=Ee ((FS m s (k+1)).getD j default)
     rw[O3 hj,O3 hj]
     cases hq:j.beq k with
     | true =>
      have:=AkT hq;subst this
      rw[AkQ,T5,hw]<;>rfl
     | false=>rw[AkN,Q6 (by rintro rfl;simp at hq)]
   ·rw[A8,show((((Ao m s).getD k default).S.Kind==7)&&!KY m s)=(decide (((Ao m s).getD k default).S.Kind=7)&&!KY m s) by rw[show(((Ao m s).getD k default).S.Kind==7)=decide (((Ao m s).getD k default).S.Kind=7) by rw[Alc];simp]]at hb
    rw[hb,AkN]at hw
    have:FS m s (k+1)=FS m s k:=Al3 fun j _=>by
     by_cases hj:j=k
     ·subst hj;rw[T5,Q7,hw]
     ·exact Q6 hj
    rw[this,An (by omega)]
  ·obtain rfl:k=(Ao m s).length:=by have:=A5 hge;omega
   rw[Aar]
   exact⟨trivial,VV.le_refl _⟩
end
section
variable {m : D.Model} {s:D.State} {e:D.Env} {w:Wy}
theorem AiI {out:List Nx}{x:Nx}{G:Nat->List VV}(hG:leL (G 0) (Bt x)){i:Nat}(hi:i<out.length+1):leL (bif i.blt out.length then Bt (out.getD i default) else G (i - out.length)) (C8 (out++[x]) i):=by
 rcases Alw i out.length with h | h
 ·rw[E8 h]
  refine AQ ?_
  show _=Bt ((out++[x]).getD i default)
  simp[Ak0 h]
 ·rw[GC h]
  obtain rfl:i=out.length:=by omega
  show leL _ (Bt ((out++[x]).getD out.length default))
  have:(out++[x]).getD out.length default=x:=by simp
  rw[this,Nat.sub_self]
  exact hG
theorem XD {k:Nat}:DY m s (k+1)=DY m s k++NV m s k:=rfl
theorem MT : (DD m s).length=(Ao m s).length:=by simp[DD]
theorem Adg {k:Nat}(h:k<(Ao m s).length):(DD m s).getD k default=Jg m s k:=by simp[DD,List.getD,h]
theorem Zc {l:Nat->List (Nat × VV)}{J:St->Prop}{out:List Nx}{x:Nx}{G:Nat->List VV}(hG:leL (G 0) (Bt x))
  (h:J (Aq (l (out++[x]).length) [.box (Ae m),.box (Af s),.arr true 0 (out++[x]).length 15 (C8 (out++[x]))])) :
  Up J (Aq (l (out.length+1)) [.box (Ae m),.box (Af s),.arr true 0 (out.length+1) 15 fun i=>bif i.blt out.length then Bt (out.getD i default) else G (i - out.length)]):=by
 rw[show(out++[x]).length=out.length+1 by simp]at h
 exact Up.mk (hs':=[.box (Ae m),.box (Af s),.arr true 0 (out.length+1) 15 (C8 (out++[x]))]) (AV _) ⟨Ob.le_refl _,Ob.le_refl _,AlB fun i hi=>AiI (x:=x) (G:=G) hG hi,trivial⟩ h
theorem N1 (h:Gs m s)(hc:0<=m.Claim):AB (fc AO EH Tryz.f13 [] (.tup [AU true (DY m s (Ao m s).length,(0:Int)).1,Aa (DY m s (Ao m s).length,(0:Int)).2])) [1,1,1,1,1,0,1,0] (AaU m s (Ff m s) (DD m s) [] 0):=by
 obtain⟨c1,c2,c3⟩:=Qp h hc
 obtain⟨w1,w2,w3⟩:=MJ h hc
 obtain⟨r1,r2⟩:=Y7 h
 have hno:=fun k hk=>(Nf h hc (k:=k) hk).1
 change AB _ _ (AaU m s (Ff m s) (DD m s) (DY m s 0) ((0:Nat):Int))
 refine AS Al Am (Ao m s).length (fun k=>AaU m s (Ff m s) (DD m s) (DY m s k) k) (fun _=>True) (by kernel_rfl) (by kernel_rfl) trivial ?_
 intro k hk _ J next
 have hnk:=hno k hk
 refine Ali (VK _ m s (Ff m s) (DD m s) (DY m s k) k J) ⟨fun hlt=>?_,fun hge=>?_⟩
 ·have hlt':k<(Ao m s).length:=by have:=A3 hlt;rw[MT]at this;omega
  have hto:(k:Int).toNat=k:=by omega
  have hq:NV m s k=bif !(Jg m s k).1 then[] else bif decide ((Jg m s k).2≠0) then[⟨C1 k,Cr,(Jg m s k).2,noT⟩] else(Ff m s).map (FR k ((Ao m s).getD k default).To):=rfl
  have hsu:=XD (m:=m) (s:=s) (k:=k)
  rw[hto,Adg hlt']
  generalize NV m s k=nk at hq hsu
  generalize DY m s (k+1)=nk1 at hsu next
  generalize DY m s k=out at hnk hsu
  have hb2:out.length<=292075601920:=by have:=Ala 285230080 hk;have:=Ala 285230080 w1;omega
  refine⟨⟨by omega,by rw[MT];omega⟩,fun hb=>next _ hlt' trivial (Up.of ?_),fun hb=>⟨fun hb2=>⟨C1 k,Pr,by omega,next _ hlt' trivial ?_⟩,fun hb2=>?_⟩⟩
  ·rw[hb,AkQ]at hq
   rw[hsu,hq,AlN,An (by omega)]
  ·rw[hb,AkN,show decide ((Jg m s k).2≠0)=true by simpa using hb2,AkQ]at hq
   rw[An (by omega)]
   refine Zc (x:=⟨C1 k,Cr,(Jg m s k).2,noT⟩) (l:=fun n=>[(2,.bp 0 0),(3,.bp 1 0),(6,AU true (Ff m s)),(8,.ow 2 0 n),(37,Cl true (DD m s)),(38,Aa (DD m s).length),(39,Aa ((k+1:Nat):Int))]) (G:=fun i=>List.take 15 (List.drop (i*15) [Aa (C1 k).Pid,Aa (C1 k).Esc,Aa (C1 k).Way,Aa (C1 k).With,Aa (C1 k).WithEsc,Aa (C1 k).WithWay,Aa (C1 k).Claim,VV.nl,VV.nl,VV.nl,Aa 0,Aa 0,Aa 0,Aa (Jg m s k).2,AP ByteArray.empty])) ?_ ?_
   ·exact⟨VV.le_refl _,VV.le_refl _,VV.le_refl _,VV.le_refl _,VV.le_refl _,VV.le_refl _,VV.le_refl _,AlE,AlE,AlE,VV.le_refl _,VV.le_refl _,VV.le_refl _,VV.le_refl _,VV.le_refl _,trivial⟩
   ·rw[hsu,hq]<;>rfl
  ·rw[hb,AkN,show decide ((Jg m s k).2≠0)=false by simpa using hb2,AkN]at hq
   have key:nk1=out++((Ff m s).take (Ff m s).length).map (FR k ((Ao m s).getD k default).To):=by rw[Al1,hsu,hq]
   generalize Ff m s=L at r1 r2 key next
   clear hq hsu
   have hz:out=out++(L.take 0).map (FR k ((Ao m s).getD k default).To):=by simp
   have hst:AdA m s L (DD m s) out k 0=AdA m s L (DD m s) (out++(L.take 0).map (FR k ((Ao m s).getD k default).To)) k ((0:Nat):Int):=by rw[← hz]<;>rfl
   rw[hst]
   refine AS Al Am L.length (fun i=>AdA m s L (DD m s) (out++(L.take i).map (FR k ((Ao m s).getD k default).To)) k i) (fun _=>True) (by kernel_rfl) (by kernel_rfl) trivial ?_
   intro i hi _ J2 next2
   have hlo:(out++(L.take i).map (FR k ((Ao m s).getD k default).To)).length<=292075601920+285230080:=by simp;omega
   refine Ali (VJ _ m s L (DD m s) (out++(L.take i).map (FR k ((Ao m s).getD k default).To)) k i J J2) ⟨fun hlt2=>?_,fun hge2=>?_⟩
   ·have hlt2':i<L.length:=by have:=A3 hlt2;omega
    have hto2:(i:Int).toNat=i:=by omega
    rw[hto2]
    have hn2:=next2
    have htk:(L.take (i+1)).map (FR k ((Ao m s).getD k default).To)=(L.take i).map (FR k ((Ao m s).getD k default).To)++[FR k ((Ao m s).getD k default).To (L.getD i default)]:=by rw[GQ (d:=default) hlt2',AmJ]<;>rfl
    have hnx:=r2 _ (Aw (d:=default) hlt2')
    rw[htk,← AlF]at next2
    clear hn2 htk
    have hw:FR k ((Ao m s).getD k default).To (L.getD i default)=bif decide ((L.getD i default).Err=0) then⟨{ (L.getD i default).Move with Claim:=k },{ (L.getD i default).State with Claim:=((Ao m s).getD k default).To },(L.getD i default).Err,(L.getD i default).Text⟩ else⟨{ (L.getD i default).Move with Claim:=k },(L.getD i default).State,(L.getD i default).Err,(L.getD i default).Text⟩:=rfl
    generalize FR k ((Ao m s).getD k default).To (L.getD i default)=x at hw next2
    generalize out++(L.take i).map (FR k ((Ao m s).getD k default).To)=o2 at hlo next2
    generalize L.getD i default=n at hnx hw
    have fin:∀ (G:Nat->List VV),leL (G 0) (Bt x)->J2 (Aq [(2,.bp 0 0),(3,.bp 1 0),(6,AU true L),(8,.ow 2 0 (o2.length+1)),(9,Aa k),(37,Cl true (DD m s)),(38,Aa (DD m s).length),(39,Aa k),(58,AU true L),(59,Aa L.length),(60,Aa ((i+1:Nat):Int))]
      [.box (Ae m),.box (Af s),.arr true 0 (o2.length+1) 15 fun i=>bif i.blt o2.length then Bt (o2.getD i default) else G (i - o2.length)]):=fun G hG=>next2 _ hlt2' trivial (Zc (x:=x) (l:=fun n=>[(2,.bp 0 0),(3,.bp 1 0),(6,AU true L),(8,.ow 2 0 n),(9,Aa k),(37,Cl true (DD m s)),(38,Aa (DD m s).length),(39,Aa k),(58,AU true L),(59,Aa L.length),(60,Aa ((i+1:Nat):Int))]) (G:=G) hG rfl)
    rw[An (by omega)]
    refine⟨⟨by omega,by omega⟩,fun he=>?_,fun he=>⟨by omega,fin (fun i=>List.take 15 (List.drop (i*15) [Aa n.Move.Pid,Aa n.Move.Esc,Aa n.Move.Way,Aa n.Move.With,Aa n.Move.WithEsc,Aa n.Move.WithWay,Aa k,Ad true n.State.Globals,Az true n.State.Chans,Ap true n.State.Procs,Aa n.State.Last,Aa n.State.Alone,Aa n.State.Claim,Aa n.Err,AP n.Text])) ?_⟩⟩
    ·have he':n.Err=0:=by simpa using he
     rw[Aly he',AkQ]at hw
     refine⟨n.State,Qn (hnx.gs he').fit,⟨hc,c1⟩,⟨c2,c3⟩,⟨by omega,by show(k:Int)<(Ao m s).length;omega⟩,by omega,fin (fun i=>List.take 15 (List.drop (i*15) [Aa n.Move.Pid,Aa n.Move.Esc,Aa n.Move.Way,Aa n.Move.With,Aa n.Move.WithEsc,Aa n.Move.WithWay,Aa k,Ad true n.State.Globals,Az true n.State.Chans,Ap true n.State.Procs,Aa n.State.Last,Aa n.State.Alone,Aa ((Ao m s).getD k default).To,Aa n.Err,AP n.Text])) ?_⟩
     rw[hw]
     exact AQ rfl
    ·rw[Alm (by simpa using he),AkN]at hw
     rw[hw]
     exact AQ rfl
   ·obtain rfl:i=L.length:=by have:=A5 hge2;omega
    rw[← key,An (by omega)]
    exact next _ hlt' trivial (Up.of rfl)
 ·obtain rfl:k=(Ao m s).length:=by have:=A5 hge;rw[MT]at this;omega
  exact⟨trivial,VV.le_refl _⟩
theorem N2 (h:Gs m s):Aj Tryz.prog 13 [] [.agg (Ae m),.agg (Af s)] [] (.tup [AU true (AC m s).1,Aa (AC m s).2]):=by
 have hq:AC m s=bif decide ((C6 m s).2≠0)||decide (m.Claim<0) then C6 m s else(DY m s (Ao m s).length,0):=rfl
 refine Ah Al Am Tryz.func13 (by kernel_rfl) rfl (Yl (AC m s) m s) ⟨C6 m s,WV h,fun hb=>?_,fun hb=>?_⟩
 ·rw[A7,AK]at hb
  rw[hb,AkQ]at hq
  rw[hq]
  exact⟨trivial,VV.le_refl _⟩
 ·rw[A7,AK]at hb
  rw[hb,AkN]at hq
  simp only[Ald,Alq]at hb
  have hc:0<=m.Claim:=by omega
  rw[hq]
  refine⟨fun hl=>⟨C1 (-1),Pr,DD m s,Ql h hc,?_⟩,fun hl=>⟨DD m s,Ql h hc,?_⟩⟩
  ·have hr:Ff m s=[⟨C1 (-1),s,0,noT⟩]:=by
    unfold Ff
    rw[Alm (by have:((C6 m s).1.length:Int)=0:=(by simpa using hl);omega),AkN]
   have ht:=N1 h hc
   rw[hr]at ht
   generalize DD m s=ws at ht
   have h0:∀ (F:Nat->List VV),F 0=Bt ⟨C1 (-1),s,0,noT⟩->∀ i,i<1->leL (F i) (C8 [⟨C1 (-1),s,0,noT⟩] i):=fun F hF i hi=>by
    obtain rfl:i=0:=by omega
    exact AQ hF
   refine AB.le (hs':=[.box (Ae m),.box (Af s),.arr true 0 1 15 (C8 [⟨C1 (-1),s,0,noT⟩])]) (AV _) ⟨Ob.le_refl _,Ob.le_refl _,AlB (h0 _ rfl),trivial⟩ ?_
   refine AB.cv (Cv.pub (k:=2) (id:=2) rfl rfl) ?_
   refine AB.forget [2,3,6,8,37,38,39] (by kernel_rfl) ?_
   have e1:Go.Proofs.YtmdcknlpalfhhaaGreatDoor.forget 0 [2,3,6,8,37,38,39] (Aq ([(2,VV.bp 0 0),(3,.bp 1 0),(6,.ow 2 0 1),(8,.nl),(37,Cl true ws),(38,Aa ws.length),(39,Aa 0)].set 2 (6,.sl true 1 15 (C8 [⟨C1 (-1),s,0,noT⟩]))) ([Ob.box (Ae m),.box (Af s),.arr true 0 1 15 (C8 [⟨C1 (-1),s,0,noT⟩])].set 2 (.gone (0+1))))=Aq [(2,.bp 0 0),(3,.bp 1 0),(6,AU true [⟨C1 (-1),s,0,noT⟩]),(8,.nl),(37,Cl true ws),(38,Aa ws.length),(39,Aa 0)] [.box (Ae m),.box (Af s)]:=by kernel_rfl
   show AB _ _ (Go.Proofs.YtmdcknlpalfhhaaGreatDoor.forget 0 [2,3,6,8,37,38,39] _)
   refine Eq.mpr (congrArg (AB _ _) e1) ?_
   exact AB.own 3 8 15 (C8 []) rfl ht
  ·have hr:Ff m s=(C6 m s).1:=by
    unfold Ff
    rw[Aly (by have:((C6 m s).1.length:Int)≠0:=(by simpa using hl);omega),AkQ]
   have ht:=N1 h hc
   rw[hr]at ht
   exact AB.own 3 8 15 (C8 []) rfl ht
end
section
variable {m : D.Model} {s:D.State} {e:D.Env} {w:Wy}
theorem Y5 {α:Type}{f:α->List VV}{d:α}{out:List α}{x:α}{G:Nat->List VV}(hG:leL (G 0) (f x)){i:Nat}(hi:i<out.length+1):leL (bif i.blt out.length then f (out.getD i d) else G (i - out.length)) (f ((out++[x]).getD i d)):=by
 rcases Alw i out.length with h | h
 ·rw[E8 h]
  refine AQ ?_
  simp[Ak0 h]
 ·rw[GC h]
  obtain rfl:i=out.length:=by omega
  have:(out++[x]).getD out.length d=x:=by simp
  rw[this,Nat.sub_self]
  exact hG
theorem Agr (n:Nat):leL [VV.sl false n 1 fun _=>[Aa 0]] [Ad false (List.replicate n 0)]:=by
 refine AQ ?_
 have:(fun i=>[Aa ((List.replicate n (0:Int)).getD i 0)])=fun _=>[Aa 0]:=by
  funext i
  have:(List.replicate n (0:Int)).getD i 0=0:=by
   simp only[Ak2,List.getElem?_replicate]
   split<;>rfl
  rw[this]
 unfold Ad
 rw[List.length_replicate,this]
theorem Ae7 (hw:Av m)(h:Dt m=false):Aj Tryz.prog 11 [] [.agg (Ae m)] [] (.tup [.agg (Af Cr),Aa 40]) :=
 Ah Al Am Tryz.func11 (by kernel_rfl) rfl (UB Cr 40 m) ⟨Dt m,Mx hw,fun _=>⟨trivial,Amq ⟨Al8 ⟨AlE,AlE,AlE,VV.le_refl _,VV.le_refl _,VV.le_refl _,trivial⟩,VV.le_refl _,trivial⟩⟩,fun hb=>by rw[h]at hb;cases hb⟩
theorem X1 (hw:Av m)(h:Dt m=true):Aj Tryz.prog 11 [] [.agg (Ae m)] [] (.tup [.agg (Af (AH m)),Aa 0]):=by
 have hfs:∀ k:Nat,k<m.Procs.length->Dk (A9 m k)=true:=fun k hk=>(DW (Cz h).2.1 k hk).1
 have hch:m.Chans.length<=1048576:=hw.Chans.1
 have hmn:=fun k hk=>Zo h (k:=k) hk
 refine Ah Al Am Tryz.func11 (by kernel_rfl) rfl (UB (AH m) 0 m) ⟨Dt m,Mx hw,fun hb=>(by rw[h]at hb;cases hb),fun _=>⟨m.Init,LH (by have:=hw.Init.1;omega),?_⟩⟩
 refine AB.cv (AmP 2 1 2 (CS []) rfl rfl) ?_
 change AB _ _ (YT m ((m.Chans.take 0).map fun c=>⟨c,[]⟩) ((0:Nat):Int))
 refine AS Al Am m.Chans.length (fun k=>YT m ((m.Chans.take k).map fun c=>⟨c,[]⟩) k) (fun _=>True) (by kernel_rfl) (by kernel_rfl) trivial ?_
 intro k hk _ J next
 have hlk:((m.Chans.take k).map fun c=>(⟨c,[]⟩:D.Chan)).length=k:=by simp;omega
 refine Ali (Aa8 _ 0 m ((m.Chans.take k).map fun c=>⟨c,[]⟩) k J) ⟨fun hlt=>?_,fun hge=>?_⟩
 ·have hlt':k<m.Chans.length:=by have:=A3 hlt;omega
  have hto:(k:Int).toNat=k:=by omega
  rw[hto]
  have htk:(m.Chans.take (k+1)).map (fun c=>(⟨c,[]⟩:D.Chan))=(m.Chans.take k).map (fun c=>⟨c,[]⟩)++[⟨m.Chans.getD k 0,[]⟩]:=by rw[GQ (d:=(0:Int)) hlt',AmJ]<;>rfl
  refine⟨⟨by omega,by omega⟩,by omega,next _ hlt' trivial ?_⟩
  rw[htk,An (by omega)]
  generalize (m.Chans.take k).map (fun c=>(⟨c,[]⟩:D.Chan))=out at hlk
  refine Up.mk (hs':=[.box (Ae m),N5,Afu m.Init (.ow 3 0 (out.length+1)) .nl,.arr true 0 (out.length+1) 2 (CS (out++[(⟨m.Chans.getD k 0,[]⟩:D.Chan)]))]) (AV _) ⟨Ob.le_refl _,Ob.le_refl _,Ob.le_refl _,AlB fun i hi=>Y5 (f:=AL) (d:=default) (x:=⟨m.Chans.getD k 0,[]⟩) (G:=fun i=>List.take 2 (List.drop (i*2) [Aa (m.Chans.getD k 0),VV.nl])) ⟨VV.le_refl _,AlE,trivial⟩ hi,trivial⟩ ?_
  unfold YT
  rw[Ak4]<;>rfl
 ·obtain rfl:k=m.Chans.length:=by have:=A5 hge;omega
  rw[Al1]
  have hcs:(AH m).Chans=m.Chans.map fun c=>⟨c,[]⟩:=rfl
  have hps:(AH m).Procs=CX m m.Procs.length:=rfl
  refine AB.cv (AmP 2 2 4 (Fu []) rfl rfl) ?_
  generalize hC:m.Chans.map (fun c=>(⟨c,[]⟩:D.Chan))=cs at hcs hlk
  change AB _ _ (YS m cs (CX m 0) ((0:Nat):Int))
  refine AS Al Am m.Procs.length (fun k=>YS m cs (CX m k) k) (fun _=>True) (by kernel_rfl) (by kernel_rfl) trivial ?_
  intro k hk _ J next
  have hps16:=hmn k hk
  refine Ali (Aa7 (AH m) 0 m cs (CX m k) k J) ⟨fun hlt=>?_,fun hge=>?_⟩
  ·have hlt':k<m.Procs.length:=by have:=A3 hlt;omega
   have hto:(k:Int).toNat=k:=by omega
   have f1:Dk (A9 m k)=true:=hfs k hlt'
   have hpq:m.Procs.getD (k:Int).toNat default=A9 m k:=rfl
   have hf:=f1
   unfold Dk at hf
   simp only[AkO,AkS]at hf
   have a0:=hf.1.1.1.1.1.1.1.1
   have a1:=hf.1.1.1.1.1.1.1.2
   have a3:=hf.1.1.1.1.1.2
   have a2:=hf.1.1.1.1.2
   have a4:=hf.1.1.1.2
   have a5:=hf.1.1.2
   have hpl:=hw.Procs.1
   have hbg:=Rq (args:=List.replicate (A9 m k).Params.toNat 0) hw (typ:=k) ⟨by omega,by omega⟩ (by simp;omega) (by simp;omega) (by simp;omega)
   have hsu:CX m (k+1)=CX m k++List.replicate (A9 m k).Active.toNat (Hb m k (List.replicate (A9 m k).Params.toNat 0)):=rfl
   rw[hpq]
   refine⟨⟨by omega,by omega⟩,?_⟩
   generalize Hb m k (List.replicate (A9 m k).Params.toNat 0)=b at hbg hsu
   generalize A9 m k=p at *
   generalize CX m (k+1)=ps1 at hsu next
   generalize CX m k=ps at hsu hps16
   have hz:Rm m cs ps k p p.Active 0=Rm m cs (ps++List.replicate 0 b) k p p.Active ((0:Nat):Int):=by rw[List.replicate_zero,AlN]<;>rfl
   rw[hz]
   refine AS Al Am p.Active.toNat (fun j=>Rm m cs (ps++List.replicate j b) k p p.Active j) (fun _=>True) (by kernel_rfl) (by kernel_rfl) trivial ?_
   intro j hj _ J2 next2
   have hl2:(ps++List.replicate j b).length=ps.length+j:=by simp
   refine Ali (Aa6 _ 0 m cs (ps++List.replicate j b) k p p.Active j J J2) ⟨fun hlt2=>?_,fun hge2=>?_⟩
   ·have hlt2':j<p.Active.toNat:=by have:=A3 hlt2;omega
    have hrs:ps++List.replicate (j+1) b=(ps++List.replicate j b)++[b]:=by rw[List.replicate_succ',AlF]
    have hri:=(Agr p.Params.toNat).1
    refine⟨⟨a3,Ama _,by omega⟩,b,hbg.le trivial ⟨VV.le_refl _,VV.le_refl _,hri,trivial⟩ trivial (VV.le_refl _),by omega,next2 _ hlt2' trivial ?_⟩
    rw[hrs,An (by omega)]
    generalize ps++List.replicate j b=o2 at hl2
    refine Up.mk (hs':=[.box (Ae m),N5,Afu m.Init (.ow 3 0 cs.length) (.ow 4 0 (o2.length+1)),.arr true 0 cs.length 2 (CS cs),.arr true 0 (o2.length+1) 4 (Fu (o2++[b])),.box (Bf p)]) (AV _) ⟨Ob.le_refl _,Ob.le_refl _,Ob.le_refl _,Ob.le_refl _,AlB fun i hi=>Y5 (f:=As) (d:=default) (x:=b) (G:=fun i=>List.take 4 (List.drop (i*4) (As b))) (Qa _) hi,Ob.le_refl _,trivial⟩ ?_
    unfold Rm
    rw[Ak4]<;>rfl
   ·obtain rfl:j=p.Active.toNat:=by have:=A5 hge2;omega
    rw[← hsu]
    refine next _ hlt' trivial (Up.of ?_)
    rw[An (by omega)]
  ·obtain rfl:k=m.Procs.length:=by have:=A5 hge;omega
   refine⟨fun hb=>⟨?_,trivial,?_⟩,fun hb=>⟨trivial,?_⟩⟩
   ·have:=AkW hb
    exact⟨by omega,(G3 h).clp⟩
   ·have hb:0<=m.Claim:=AkW hb
    have hcl:(AH m).Claim=(A9 m m.Claim).Start:=by
     unfold AH
     rw[Aly hb]<;>rfl
    refine Al0 ?_
    show _=VV.tup [.agg [Ad true (AH m).Globals,Az true (AH m).Chans,Ap true (AH m).Procs,Aa (AH m).Last,Aa (AH m).Alone,Aa (AH m).Claim],Aa 0]
    rw[hcl,hcs,hps]<;>rfl
   ·have hb:¬ 0<=m.Claim:=Ak6 hb
    have hcl:(AH m).Claim=-1:=by
     unfold AH
     rw[Alm hb]<;>rfl
    refine Al0 ?_
    show _=VV.tup [.agg [Ad true (AH m).Globals,Az true (AH m).Chans,Ap true (AH m).Procs,Aa (AH m).Last,Aa (AH m).Alone,Aa (AH m).Claim],Aa 0]
    rw[hcl,hcs,hps]<;>rfl
end
def Eu (m:D.Model):List Int->D.State->List (Option Nx)
 | [],_=>[]
 | p::r,s=>bif decide ((AC m s).1.length=0) then[none]
  else bif decide (((AC m s).1.getD (CL p (AC m s).1.length) default).Err≠0) then[some ((AC m s).1.getD (CL p (AC m s).1.length) default)]
  else some ((AC m s).1.getD (CL p (AC m s).1.length) default)::Eu m r ((AC m s).1.getD (CL p (AC m s).1.length) default).State
def xNx : Option Nx->List VV
 | some n=>[.agg (Bt n),Ac true]
 | none=>[.agg Ab3,Ac false]
theorem JV {α:Type}{l t:List α}{x d:α}{i:Nat}(h:l.drop i=x::t):i<l.length/\l.getD i d=x/\l.drop (i+1)=t:=by
 have hi:i<l.length:=by
  rcases Alw i l.length with h1 | h1
  ·exact h1
  ·rw[Alz h1]at h;cases h
 rw[Amh hi]at h
 simp only[List.cons.injEq]at h
 exact⟨hi,by simp[List.getD,hi,h.1],h.2⟩
section
variable {m : D.Model} {s:D.State} {e:D.Env} {w:Wy}
noncomputable def cMd:Ctx:=fc AO AM Tryz.f26 [] (.tup [])
theorem Ake : tlC 0 (cMd.sub [])=.block 0 (.loop (cMd.sub [1,0,0])):=by kernel_rfl
theorem Akd : tlC 1 (cMd.sub [1,0,0])=.seq (.block 1 (cMd.sub [1,0,0,1,1,0,0])) (cMd.sub [1,0,0,1,1,1]):=by kernel_rfl
theorem Akc : tlC 1 (cMd.sub [1,0,0,1,1,0,0])=.seq (cMd.sub [1,0,0,1,1,0,0,1,1,0]) (cMd.sub [1,0,0,1,1,0,0,1,1,1]):=by kernel_rfl
theorem Akb : tlC 0 (cMd.sub [1,0,0,1,1,0,0,1,1,0])=.cond (.tmp 24) (.seq (cMd.sub [1,0,0,1,1,0,0,1,1,0,1,0,0]) .ret) .skip:=by kernel_rfl
theorem Aka : tlC 0 (cMd.sub [1,0,0,1,1,0,0,1,1,1])=.seq (.seq (cMd.sub [1,0,0,1,1,0,0,1,1,1,1,0,0]) (.cond (.tmp 49) .ret .skip)) (cMd.sub [1,0,0,1,1,0,0,1,1,1,1,1]):=by kernel_rfl
theorem Ai3 : ∃ oc tys,(JI (cMd.sub [1,0,0,1,1,0,0,1,1,0,1,0,0]))[2]?=some oc/\oc.op=.call { callee:=.value (.tmp 25),args:=#[.tmp 26,.const (.bool false)],argTypes:=tys }/\oc.guard=none/\oc.dst=some 27:=⟨_,_,rfl,rfl,rfl,rfl⟩
theorem Ai2 : ∃ oc tys,(JI (cMd.sub [1,0,0,1,1,0,0,1,1,1,1,0,0]))[2]?=some oc/\oc.op=.call { callee:=.value (.tmp 41),args:=#[.tmp 42,.const (.bool true)],argTypes:=tys }/\oc.guard=none/\oc.dst=some 43:=⟨_,_,rfl,rfl,rfl,rfl⟩
theorem AbV {picks:List Int}:Aj Tryz.prog 12 [] [.agg (Ae m),.agg (Af s),Ad true picks] [.box [Ad true picks],.box (Ae m),.box (Af s)] (.fn (.func 26) [.bp 0 0,.bp 1 0,.bp 2 0]) :=
 Ah Al Am Tryz.func12 (by kernel_rfl) rfl (AgF m s picks) ⟨Ea _,VV.le_refl _⟩
def Ac1 (m:D.Model)(picks:List Int)(s:D.State)(k:Nat):List VV:=xNx ((Eu m picks s).getD k none)
theorem AbW {picks:List Int}(h:Gs m s)(hp:picks.length<=1048576):LR Tryz.prog 26 [.box [Ad true picks],.box (Ae m),.box (Af s)] [.bp 0 0,.bp 1 0,.bp 2 0] (Eu m picks s).length (Ac1 m picks s):=by
 refine Zt (c:=cMd.sub []) Tryz.func26 (by kernel_rfl) rfl (by decide) ?_
 intro l E J hJ hY
 have hxs:∀ k,Ac1 m picks s k=xNx ((Eu m picks s).getD k none):=fun _=>rfl
 refine DU (c:=cMd) hJ Al Am [0,2,3,10,11,12] 0 (by kernel_rfl) (by kernel_rfl) ((AgJ m s picks l _).mpr ?_)
 show C2 cMd.P cMd.N E J (tlC 0 (cMd.sub [])) _ _ _
 rw[Ake]
 have h0:(Eu m picks s).drop 0=Eu m (picks.drop 0) s:=rfl
 generalize Ac1 m picks s=xs at hY hxs
 generalize Eu m picks s=X at hY hxs h0
 refine Ft (M4 hJ (fun g k st=>∃ (i:Nat) (s:D.State),i<=picks.length/\g=picks.length - i/\k=some i/\st=SI l m s picks i/\Gs m s/\i<=X.length/\X.drop i=Eu m (picks.drop i) s) ⟨_,Up.of ⟨0,s,AkV _,rfl,rfl,rfl,h,AkV _,h0⟩⟩ ?_)
 clear h h0
 rintro g k st ⟨i,s,hi,rfl,rfl,rfl,h,hX,hdr⟩
 refine DU (c:=cMd) hJ Al Am [0,2,3,10,11,12] 1 (by kernel_rfl) (by kernel_rfl) ((AgQ l m s picks i _).mpr ⟨fun hlt=>?_,fun hge=>?_⟩)
 ·have hlt':i<picks.length:=by have:=A3 hlt;omega
  have hto:(i:Int).toNat=i:=by omega
  show C2 cMd.P cMd.N E J (tlC 1 (cMd.sub [1,0,0])) _ _ _
  rw[Akd]
  refine EW (Ft (DU (c:=cMd) hJ Al Am [0,2,3,10,11,12,6,7] 1 (by kernel_rfl) (by kernel_rfl) ((AgP l m s picks i _).mpr ⟨⟨by omega,by omega⟩,AC m s,N2 h,?_⟩)))
  rw[hto]
  have hpd:picks.drop i=picks.getD i 0::picks.drop (i+1):=BN hlt'
  rw[hpd]at hdr
  obtain⟨hs1,hs2,hs3⟩:=MX h
  have hrun:∀ (p:Int) r,Eu m (p::r) s=bif decide ((AC m s).1.length=0) then[none]
   else bif decide (((AC m s).1.getD (CL p (AC m s).1.length) default).Err≠0) then[some ((AC m s).1.getD (CL p (AC m s).1.length) default)]
   else some ((AC m s).1.getD (CL p (AC m s).1.length) default)::Eu m r ((AC m s).1.getD (CL p (AC m s).1.length) default).State:=fun _ _=>rfl
  rw[hrun]at hdr
  clear hrun
  generalize (AC m s).1=L at hdr hs2 hs3
  generalize picks.getD i 0=p at hdr
  show C2 cMd.P cMd.N E J (tlC 1 (cMd.sub [1,0,0,1,1,0,0])) _ _ _
  rw[Akc]
  refine EW (DU (c:=cMd) hJ Al Am [0,2,3,10,11,12,6,7,24] 0 (by kernel_rfl) (by kernel_rfl) ((AgO l m s picks i p L _).mpr ?_))
  show C2 cMd.P cMd.N E J (tlC 0 (cMd.sub [1,0,0,1,1,0,0,1,1,0])) _ _ _
  rw[Akb]
  refine M5 (t:=24) (b:=(L.length:Int)==0) rfl (fun hb=>?_) fun hb=>?_
  ·have hL0:L.length=0:=by have:(L.length:Int)=0:=(by simpa using hb);omega
   rw[Aly hL0,AkQ]at hdr
   obtain⟨d1,d2,d3⟩:=JV (d:=none) hdr
   have hxl:X.length=i+1:=by
    have:=Amr.1 d3
    omega
   obtain⟨oc,tys,o1,o2,o3,o4⟩:=Ai3
   refine EW (Jy (c:=cMd) hJ Al (by kernel_rfl) 2 25 27 (.tmp 26) (.const (.bool false)) hY (by kernel_rfl) (by kernel_rfl) (by kernel_rfl) (by kernel_rfl) o1 o2 o3 o4 d1 [25,26] [] ((AgN l m s picks i p L ((L.length:Int)==0) _).mpr ⟨_,_,rfl,rfl,?_,?_,fun b=>(AgM l b _).mpr ?_⟩))
   ·rw[hxs,d2]<;>rfl
   ·rw[hxs,d2]<;>rfl
   ·refine PH ⟨.inr rfl,?_⟩
    cases b with
    | true=>exact .inl (by rw[hxl]<;>rfl)
    | false=>exact .inr rfl
  ·have hL0:¬ L.length=0:=by have:¬ (L.length:Int)=0:=(by simpa using hb);omega
   rw[Alm hL0,AkN]at hdr
   refine M3 ?_
   show C2 cMd.P cMd.N E J (cMd.sub [1,0,0,1,1,0,0,1,1,1]) _ _ _
   have hpk:=PS (p:=p) (n:=L.length) (by omega)
   have hw:IntKind.i64.wrap (p.tmod (L.length:Int)+(L.length:Int))=p.tmod (L.length:Int)+(L.length:Int):=by
    have h3:=Int.natAbs_tmod p L.length
    have h4:=AmQ p.natAbs (show 0<(L.length:Int).natAbs by omega)
    exact BF (by omega) (by omega)
   have hpq:((p.tmod (L.length:Int)+(L.length:Int)).tmod (L.length:Int)).toNat=CL p L.length:=rfl
   have hpn:0<=(p.tmod (L.length:Int)+(L.length:Int)).tmod (L.length:Int):=Int.tmod_nonneg _ (by
    have h3:=Int.natAbs_tmod p L.length
    have h4:=AmQ p.natAbs (show 0<(L.length:Int).natAbs by omega)
    omega)
   refine DU (c:=cMd) hJ Al Am [0,2,3,10,11,12,9] 0 (by kernel_rfl) (by kernel_rfl) ((AgL l m s picks i p L ((L.length:Int)==0) _).mpr ⟨by omega,by omega,?_,?_⟩)
   ·rw[hw];exact⟨hpn,by omega⟩
   rw[hw,hpq]
   have hn:=hs3 _ (Aw (d:=default) hpk)
   generalize L.getD (CL p L.length) default=n at hdr hn
   show C2 cMd.P cMd.N E J (tlC 0 (cMd.sub [1,0,0,1,1,0,0,1,1,1])) _ _ _
   rw[Aka]
   have hdx:∃ t,X.drop i=some n::t/\(n.Err≠0->t=[])/\(n.Err=0->t=Eu m (picks.drop (i+1)) n.State):=by
    by_cases he:n.Err=0
    ·rw[Alm (by simpa using he),AkN]at hdr
     exact⟨_,hdr,fun h=>absurd he h,fun _=>rfl⟩
    ·rw[Aly he,AkQ]at hdr
     exact⟨_,hdr,fun _=>rfl,fun h=>absurd h he⟩
   obtain⟨t,hdr,t1,t2⟩:=hdx
   obtain⟨d1,d2,d3⟩:=JV (d:=none) hdr
   obtain⟨oc,tys,o1,o2,o3,o4⟩:=Ai2
   refine EW (EW (Jy (c:=cMd) hJ Al (by kernel_rfl) 2 41 43 (.tmp 42) (.const (.bool true)) hY (by kernel_rfl) (by kernel_rfl) (by kernel_rfl) (by kernel_rfl) o1 o2 o3 o4 d1 [0,2,3,10,11,12,9,41,42] [0,2,3,10,11,12,9,49] ((AgK l m s picks i n _).mpr ⟨_,_,rfl,rfl,?_,?_,fun b=>(AgI l m s picks i n b _).mpr ?_⟩)))
   ·rw[hxs,d2]<;>rfl
   ·rw[hxs,d2]<;>rfl
   ·refine M5 (t:=49) (b:=bif !b then true else n.Err != 0) rfl (fun hb=>PH ⟨.inr rfl,?_⟩) fun hb=>M3 ?_
    ·cases b with
     | false=>exact .inr rfl
     | true =>
      have he:n.Err≠0:=by simpa using hb
      rw[t1 he]at d3
      have:=Amr.1 d3
      refine .inl ?_
      rw[show X.length=i+1 by omega]<;>rfl
    ·obtain⟨rfl,he⟩:b=true/\n.Err=0:=by
      cases b with
      | false=>simp at hb
      | true=>exact⟨rfl,by simpa using hb⟩
     show C2 cMd.P cMd.N E J (cMd.sub [1,0,0,1,1,0,0,1,1,1,1,1]) _ _ _
     refine IM (c:=cMd) hJ Al Am (by kernel_rfl) [0,2,3,10,11,12] ((AgH l m s picks i n _ _).mpr ?_)
     show C2 cMd.P cMd.N E J (cMd.sub [1,0,0,1,1,1]) _ _ _
     refine IM (c:=cMd) hJ Al Am (by kernel_rfl) [0,2,3,10,11,12] ((AgG l m n.State picks i _).mpr ?_)
     refine⟨picks.length - (i+1),by omega,Up.of ⟨i+1,n.State,by omega,rfl,rfl,?_,hn.gs he,by omega,?_⟩⟩
     ·rw[An (by omega)]
     ·rw[d3,t2 he]
 ·obtain rfl:i=picks.length:=by have:=A5 hge;omega
  rw[Amp]at hdr
  have hnil:X.drop picks.length=[]:=hdr
  have:=Amr.1 hnil
  refine⟨.inl rfl,.inl ?_⟩
  rw[show X.length=picks.length by omega]
end
abbrev SR : Type:=List Mv × D.State × ByteArray × Int
def YL (q:SR):Option Nx->SR
 | none=>q
 | some n=>bif decide (n.Err≠0) then(q.1++[n.Move],q.2.1,q.2.2.1,n.Err) else(q.1++[n.Move],n.State,q.2.2.1++n.Text,0)
def Je (X:List (Option Nx))(s:D.State)(k:Nat):SR:=(X.take k).foldl YL ([],s,noT,0)
def X5 (m:D.Model)(q:SR):Rn:=⟨q.1,q.2.1,q.2.2.1,q.2.2.2,decide ((AC m q.2.1).1.length=0)⟩
def Zd (mv:List Mv)(t:ByteArray)(r:Rn):Rn:=⟨mv++r.Moves,r.State,t++r.Text,r.Err,r.Over⟩
section
variable {m : D.Model} {s:D.State} {e:D.Env} {w:Wy}
theorem Lz {X:List (Option Nx)}{k:Nat}(h:k<X.length):Je X s (k+1)=YL (Je X s k) (X.getD k none):=by
 unfold Je
 rw[GQ (d:=none) h,List.foldl_append]<;>rfl
structure V3 (m:D.Model) (picks:List Int) (X:List (Option Nx)) (r:Rn) (s0:D.State) (k:Nat) (mv:List Mv) (s:D.State) (t:ByteArray):Prop where
 st:Je X s0 k=(mv,s,t,0)
 gs:Gs m s
 ml:mv.length=k
 kp:k<=picks.length
 tx:t.size<=k*13488881664
 dr:X.drop k=Eu m (picks.drop k) s
 rn:r=Zd mv t (CI m (picks.drop k) s)
theorem Yq (t:ByteArray):t++noT=t:=by
 apply ByteArray.ext
 simp[noT]
theorem V3.next {picks:List Int}{X:List (Option Nx)}{r:Rn}{s0:D.State}{k:Nat}{mv:List Mv}{t:ByteArray}(h:V3 m picks X r s0 k mv s t)(hk:k<X.length) :
  (X.getD k none=none/\X.length=k+1/\r=⟨mv,s,t,0,true⟩/\X5 m (mv,s,t,0)=r) ∨
  (∃ n,X.getD k none=some n/\n.Err≠0/\X.length=k+1/\r=⟨mv++[n.Move],s,t,n.Err,false⟩/\X5 m (mv++[n.Move],s,t,n.Err)=r) ∨
  (∃ n,X.getD k none=some n/\n.Err=0/\n.Text.size<=13488881664/\V3 m picks X r s0 (k+1) (mv++[n.Move]) n.State (t++n.Text)):=by
 have hp:k<picks.length:=by
  rcases Alw k picks.length with h1 | h1
  ·exact h1
  ·have:=h.dr
   rw[Alz (l:=picks) h1]at this
   have:=Amr.1 (show X.drop k=[] from this)
   omega
 have hpd:picks.drop k=picks.getD k 0::picks.drop (k+1):=BN hp
 have hdr:=h.dr
 have hr:=h.rn
 rw[hpd]at hdr hr
 generalize picks.getD k 0=p at hdr hr
 have hsim:CI m (p::picks.drop (k+1)) s=bif decide ((AC m s).1.length=0) then⟨[],s,noT,0,true⟩
  else bif decide (((AC m s).1.getD (CL p (AC m s).1.length) default).Err≠0) then⟨[((AC m s).1.getD (CL p (AC m s).1.length) default).Move],s,noT,((AC m s).1.getD (CL p (AC m s).1.length) default).Err,false⟩
  else⟨((AC m s).1.getD (CL p (AC m s).1.length) default).Move::(CI m (picks.drop (k+1)) ((AC m s).1.getD (CL p (AC m s).1.length) default).State).Moves,(CI m (picks.drop (k+1)) ((AC m s).1.getD (CL p (AC m s).1.length) default).State).State,((AC m s).1.getD (CL p (AC m s).1.length) default).Text++(CI m (picks.drop (k+1)) ((AC m s).1.getD (CL p (AC m s).1.length) default).State).Text,(CI m (picks.drop (k+1)) ((AC m s).1.getD (CL p (AC m s).1.length) default).State).Err,(CI m (picks.drop (k+1)) ((AC m s).1.getD (CL p (AC m s).1.length) default).State).Over⟩:=rfl
 have hrun:Eu m (p::picks.drop (k+1)) s=bif decide ((AC m s).1.length=0) then[none]
   else bif decide (((AC m s).1.getD (CL p (AC m s).1.length) default).Err≠0) then[some ((AC m s).1.getD (CL p (AC m s).1.length) default)]
   else some ((AC m s).1.getD (CL p (AC m s).1.length) default)::Eu m (picks.drop (k+1)) ((AC m s).1.getD (CL p (AC m s).1.length) default).State:=rfl
 rw[hsim]at hr
 rw[hrun]at hdr
 clear hsim hrun
 have hfin:∀ a b c,X5 m (a,s,b,c)=⟨a,s,b,c,decide ((AC m s).1.length=0)⟩:=fun _ _ _=>rfl
 obtain⟨_,_,hs3⟩:=MX h.gs
 generalize (AC m s).1=L at hdr hr hs3 hfin
 cases c0:decide (L.length=0) with
 | true =>
  rw[c0,AkQ]at hdr hr
  obtain⟨_,d2,d3⟩:=JV (d:=none) hdr
  have:=Amr.1 d3
  have hr:r=⟨mv,s,t,0,true⟩:=by
   rw[hr]
   unfold Zd
   rw[AlN,Yq]
  exact .inl ⟨d2,by omega,hr,by rw[hfin,c0,hr]⟩
 | false =>
  rw[c0,AkN]at hdr hr
  have hn:=hs3 _ (Aw (d:=default) (PS (p:=p) (show 0<L.length by have:=Ak6 c0;omega)))
  generalize L.getD (CL p L.length) default=n at hdr hr hn
  by_cases he:n.Err=0
  ·rw[Alm (by simpa using he),AkN]at hdr hr
   obtain⟨_,d2,d3⟩:=JV (d:=none) hdr
   refine .inr (.inr ⟨n,d2,he,hn.text,⟨?_,hn.gs he,by have:=h.ml;simp;omega,by omega,?_,d3,?_⟩⟩)
   ·rw[Lz hk,h.st,d2]
    show(bif decide (n.Err≠0) then _ else _)=_
    rw[Alm (by simpa using he),AkN]
   ·have:=h.tx
    have:=hn.text
    rw[Al7,AmG];omega
   ·rw[hr]
    unfold Zd
    rw[AlF,List.singleton_append,ByteArray.append_assoc]
  ·rw[Aly he,AkQ]at hdr hr
   obtain⟨_,d2,d3⟩:=JV (d:=none) hdr
   have:=Amr.1 d3
   have hr:r=⟨mv++[n.Move],s,t,n.Err,false⟩:=by
    rw[hr]
    unfold Zd
    rw[Yq]
   exact .inr (.inl ⟨n,d2,he,by omega,hr,by rw[hfin,c0,hr]⟩)
theorem NH {picks:List Int}{s:D.State}(h:Gs m s):∀ {k:Nat},k<=(Eu m picks s).length->(∃ mv s' t,V3 m picks (Eu m picks s) (CI m picks s) s k mv s' t)∨(k=(Eu m picks s).length/\X5 m (Je (Eu m picks s) s k)=CI m picks s/\Gs m (Je (Eu m picks s) s k).2.1)
 | 0,_=>.inl ⟨[],s,noT,rfl,h,rfl,AkV _,AkV _,rfl,by
  show CI m picks s=⟨[]++(CI m picks s).Moves,_,noT++(CI m picks s).Text,_,_⟩
  have:noT++(CI m picks s).Text=(CI m picks s).Text:=by
   apply ByteArray.ext
   simp[noT]
  rw[this,Al9]<;>rfl⟩
 | k+1,hk=>by
  rcases NH (picks:=picks) h (k:=k) (by omega) with⟨mv,s',t,ha⟩ | ⟨h1,_⟩
  ·have hst:=ha.st
   have hf:=Lz (s:=s) (X:=Eu m picks s) (k:=k) (by omega)
   rcases ha.next (by omega) with⟨a1,a2,a3,a4⟩ | ⟨n,a1,a2,a3,a4,a5⟩ | ⟨n,a1,a2,_,a3⟩
   ·refine .inr ⟨a2.symm,?_⟩
    rw[hf,hst,a1]
    exact⟨a4,ha.gs⟩
   ·refine .inr ⟨a3.symm,?_⟩
    rw[hf,hst,a1]
    have:YL (mv,s',t,0) (some n)=(mv++[n.Move],s',t,n.Err):=by
     show(bif decide (n.Err≠0) then _ else _)=_
     rw[Aly a2]<;>rfl
    rw[this]
    exact⟨a5,ha.gs⟩
   ·exact .inl ⟨_,_,_,a3⟩
  ·omega
theorem AfG {picks:List Int}{s:D.State}(h:Gs m s){k:Nat}(hk:k<(Eu m picks s).length):∃ mv s' t,V3 m picks (Eu m picks s) (CI m picks s) s k mv s' t:=by
 rcases NH h (picks:=picks) (Nat.le_of_lt hk) with ha | ⟨h1,_⟩
 ·exact ha
 ·omega
theorem AcU {picks:List Int}{s:D.State}(h:Gs m s):X5 m (Je (Eu m picks s) s (Eu m picks s).length)=CI m picks s/\Gs m (Je (Eu m picks s) s (Eu m picks s).length).2.1:=by
 rcases NH h (picks:=picks) (AkU _) with⟨mv,s',t,ha⟩ | ⟨_,h2⟩
 ·have hdr:=ha.dr
  rw[Amp]at hdr
  have hpn:picks.drop (Eu m picks s).length=[]:=by
   cases hq:picks.drop (Eu m picks s).length with
   | nil=>rfl
   | cons p r =>
    rw[hq]at hdr
    unfold Eu at hdr
    cases c1:decide ((AC m s').1.length=0) with
    | true=>rw[c1]at hdr;cases hdr
    | false =>
     rw[c1,AkN]at hdr
     cases c2:decide (((AC m s').1.getD (CL p (AC m s').1.length) default).Err≠0) with
     | true=>rw[c2]at hdr;cases hdr
     | false=>rw[c2]at hdr;cases hdr
  have hr:=ha.rn
  rw[hpn]at hr
  rw[ha.st]
  refine⟨?_,ha.gs⟩
  rw[hr]
  show(⟨_,_,_,_,_⟩:Rn)=⟨mv++[],s',t++noT,0,_⟩
  rw[AlN,Yq]<;>rfl
 ·exact h2
def Ge (m:D.Model)(picks:List Int):Rn × Int:=bif Dt m then(CI m picks (AH m),0) else(⟨[],Cr,noT,0,false⟩,40)
def hsQ (m:D.Model)(q:SR):List Ob:=AeS m q.1 q.2.1 q.2.2.1 q.2.2.2
theorem Aec {out:List Mv}{x:Mv}{G:Nat->List VV}(hG:G 0=Dl x){i:Nat}(hi:i<out.length+1):(bif i.blt out.length then Dl (out.getD i default) else G (i - out.length))=Ln (out++[x]) i :=
 BQ (f:=Dl) (d:=default) (l:=out) (r:=[x]) (F:=Ln out) (fun _ _=>rfl) (fun j hj=>by
  obtain rfl:j=0:=by simpa using hj
  exact hG) (by simp;omega)
theorem Aj4 : [28,29].Nodup/\∀ p,p∈[28,29]->p<(Tryz.f6).ntmps:=by decide
theorem Aef (r:Rn)(mv:List Mv)(s:D.State)(t:ByteArray)(n:Nx)(hs2:List Ob):((fc AO Eg Tryz.f6 [] (.tup [.agg (Cd r),Aa 0])).rg [1,1,1,1,0,1] 5 Gk hs2).goal (Aq ([28,29].zip (xNx (some n))++Gk) (hsQ m (mv,s,t,0))) =
  ((fc AO Eg Tryz.f6 [] (.tup [.agg (Cd r),Aa 0])).rg [1,1,1,1,0,1] 5 Gk hs2).goal (Aq ([(28,.agg (Bt n)),(29,Ac true)]++Gk) (Ag5 m mv s t)):=by kernel_rfl
theorem AiK (r:Rn)(mv:List Mv)(s:D.State)(t:ByteArray)(hs2:List Ob):((fc AO Eg Tryz.f6 [] (.tup [.agg (Cd r),Aa 0])).rg [1,1,1,1,0,1] 5 Gk hs2).goal (Aq ([28,29].zip (xNx none)++Gk) (hsQ m (mv,s,t,0))) =
  ((fc AO Eg Tryz.f6 [] (.tup [.agg (Cd r),Aa 0])).rg [1,1,1,1,0,1] 5 Gk hs2).goal (Aq ([(28,.agg Ab3),(29,Ac false)]++Gk) (Ag5 m mv s t)):=by kernel_rfl
theorem Ago {r:Rn}{mv:List Mv}{s:D.State}{t:ByteArray}{hs2:List Ob}(hr:r=⟨mv,s,t,0,true⟩):Bc (((fc AO Eg Tryz.f6 [] (.tup [.agg (Cd r),Aa 0])).rg [1,1,1,1,0,1] 5 Gk hs2).goal (Aq ([28,29].zip (xNx none)++Gk) (hsQ m (mv,s,t,0)))):=by
 refine Ali ((AiK r mv s t hs2).trans (Agk r 0 m mv s t hs2)) ⟨fun _=>⟨trivial,?_⟩,fun h=>by cases h⟩
 subst hr
 exact VV.le_refl _
theorem AiL {r:Rn}{mv:List Mv}{s:D.State}{t:ByteArray}{n:Nx}{hs2:List Ob}(hl:mv.length<=1048576)(he:n.Err≠0)(hr:r=⟨mv++[n.Move],s,t,n.Err,false⟩):Bc (((fc AO Eg Tryz.f6 [] (.tup [.agg (Cd r),Aa 0])).rg [1,1,1,1,0,1] 5 Gk hs2).goal (Aq ([28,29].zip (xNx (some n))++Gk) (hsQ m (mv,s,t,0)))):=by
 refine Ali ((Aef r mv s t n hs2).trans (Y3 r 0 m mv s t n hs2)) ⟨fun h=>(by cases h),fun _=>⟨by omega,fun _=>⟨trivial,?_⟩,fun h=>absurd (by simpa using h) he⟩⟩
 subst hr
 refine Amq ⟨Al8 ⟨?_,VV.le_refl _,VV.le_refl _,VV.le_refl _,VV.le_refl _,VV.le_refl _,VV.le_refl _,VV.le_refl _,VV.le_refl _,VV.le_refl _,trivial⟩,VV.le_refl _,trivial⟩
 show VV.le _ (.sl true (mv++[n.Move]).length 7 (Ln (mv++[n.Move])))
 rw[Ak4]
 exact Amg (.inl rfl) fun i hi=>AQ (Aec (x:=n.Move) (G:=fun i=>List.take 7 (List.drop (i*7) (Dl n.Move))) rfl hi)
theorem Agp {r:Rn}{mv:List Mv}{s:D.State}{t:ByteArray}{n:Nx}(hl:mv.length<=1048576)(ht:t.size+n.Text.size<=9223372036854775807)(he:n.Err=0):Bc (((fc AO Eg Tryz.f6 [] (.tup [.agg (Cd r),Aa 0])).rg [1,1,1,1,0,1] 5 Gk (hsQ m (mv++[n.Move],n.State,t++n.Text,0))).goal (Aq ([28,29].zip (xNx (some n))++Gk) (hsQ m (mv,s,t,0)))):=by
 refine Ali ((Aef r mv s t n _).trans (Y3 r 0 m mv s t n _)) ⟨fun h=>(by cases h),fun _=>⟨by omega,fun h=>absurd he (by simpa using h),fun _=>⟨by omega,?_,trivial⟩⟩⟩
 unfold hsQ AeS Akk
 rw[Ak4]
 exact⟨Ob.le_refl _,Ob.le_refl _,Ob.le_refl _,Ob.le_refl _,AlB fun i hi=>AQ (Aec (x:=n.Move) (G:=fun i=>List.take 7 (List.drop (i*7) (Dl n.Move))) rfl hi),trivial⟩
theorem Agq {r:Rn}{q:SR}(hq:X5 m q=r)(hg:Gs m q.2.1):Bc (((fc AO Eg Tryz.f6 [] (.tup [.agg (Cd r),Aa 0])).after [1,1,1,1,0,1]).goal (Aq Gk (hsQ m q))):=by
 subst hq
 refine Ali (Agj (X5 m q) 0 m q.1 q.2.1 q.2.2.1 q.2.2.2) ⟨AC m q.2.1,N2 hg,q.2.1,Qn hg.fit,trivial,Al0 ?_⟩
 have:((((AC m q.2.1).1.length:Nat):Int)==0)=decide ((AC m q.2.1).1.length=0):=by rw[Alc];simp
 rw[this]<;>rfl
theorem AiE {picks:List Int}(hw:Av m)(h:Dt m=false):Aj Tryz.prog 6 [] [.agg (Ae m),Ad true picks] [] (.tup [.agg (Cd ⟨[],Cr,noT,0,false⟩),Aa 40]) :=
 Ah Al Am Tryz.func6 (by kernel_rfl) rfl (Ad7 ⟨[],Cr,noT,0,false⟩ 40 m picks) ⟨(Cr,40),Ae7 hw h,fun _=>⟨trivial,Amq ⟨Al8 ⟨AlE,AlE,AlE,AlE,VV.le_refl _,VV.le_refl _,VV.le_refl _,VV.le_refl _,VV.le_refl _,VV.le_refl _,trivial⟩,VV.le_refl _,trivial⟩⟩,fun h=>by cases h⟩
theorem Agm {picks:List Int}(hw:Av m)(h:Dt m=true)(hp:picks.length<=1048576):Aj Tryz.prog 6 [] [.agg (Ae m),Ad true picks] [] (.tup [.agg (Cd (CI m picks (AH m))),Aa 0]):=by
 have hg:=Vn hw h
 have hit:=AbW hg hp
 have hx:∀ k,Ac1 m picks (AH m) k=xNx ((Eu m picks (AH m)).getD k none):=fun _=>rfl
 have hal:=fun k hk=>AfG (picks:=picks) (k:=k) hg hk
 have hend:=AcU (picks:=picks) hg
 have hsuc:=fun k hk=>Lz (s:=AH m) (X:=Eu m picks (AH m)) (k:=k) hk
 have h00:Je (Eu m picks (AH m)) (AH m) 0=([],AH m,noT,0):=rfl
 refine Ah Al Am Tryz.func6 (by kernel_rfl) rfl (Ad7 (CI m picks (AH m)) 0 m picks) ⟨(AH m,0),X1 hw h,fun h=>(by cases h),fun _=>⟨(m,AH m,picks),AbV,?_⟩⟩
 refine AB.cv (AmP 3 0 7 (Ln []) rfl rfl) ?_
 generalize CI m picks (AH m)=r at hal hend
 generalize Ac1 m picks (AH m)=xs at hit hx
 generalize AH m=s0 at *
 generalize Eu m picks s0=X at *
 refine Ry Al Am (rfI ((fc AO Eg Tryz.f6 [] (.tup [.nl,.nl])).sub [1,1,1,1,0,1])) 27 [28,29] (rfA ((fc AO Eg Tryz.f6 [] (.tup [.nl,.nl])).sub [1,1,1,1,0,1])) (rfB ((fc AO Eg Tryz.f6 [] (.tup [.nl,.nl])).sub [1,1,1,1,0,1])) (by kernel_rfl) rfl (by kernel_rfl) Aj4
  ⟨_,Tryz.func26,rfl,rfl⟩ hit (fun k=>by
   rw[hx]
   cases X.getD k none<;>rfl) [0,1,2,3,7] [4,5,6] rfl rfl rfl Gk 5 (fun k=>hsQ m (Je X s0 k)) (fun _=>rfl) rfl (fun t=>?_) ?_ ?_ ?_ (fun k hk=>?_) ?_
 ·show VV.le (Iq _ _ (BK t [(2,.bp 0 0),(4,.bp 1 0),(5,.bp 2 0),(8,.bp 3 0),(27,_)])) (BK t Gk)
  unfold Gk
  simp only[BK]
  cases Nat.beq t 2 with
  | true=>exact VV.le_refl _
  | false =>
  cases Nat.beq t 4 with
  | true=>exact VV.le_refl _
  | false =>
  cases Nat.beq t 5 with
  | true=>exact VV.le_refl _
  | false =>
  cases Nat.beq t 8 with
  | true=>exact VV.le_refl _
  | false=>exact Zr _
 ·rw[h00];exact Ea _
 ·exact VV.le_refl _
 ·exact Ea _
 ·obtain⟨mv,s',t,ha⟩:=hal k hk
  have hml:=ha.ml
  have hkp:=ha.kp
  have htx:=ha.tx
  have hst:=ha.st
  have hsk:=hsuc k hk
  have hnx:=ha.next hk
  clear ha
  show Bc (((fc AO Eg Tryz.f6 [] (.tup [.agg (Cd r),Aa 0])).rg [1,1,1,1,0,1] 5 Gk (hsQ m (Je X s0 (k+1)))).goal (Aq ([28,29].zip (xs k)++Gk) (hsQ m (Je X s0 k))))
  rw[hsk,hst,hx]
  rcases hnx with⟨a1,a2,a3,_⟩ | ⟨n,a1,a2,a3,a4,_⟩ | ⟨n,a1,a2,a3,a4⟩
  ·rw[a1];exact Ago a3
  ·rw[a1];exact AiL (by omega) a2 a4
  ·rw[a1]
   have:YL (mv,s',t,0) (some n)=(mv++[n.Move],n.State,t++n.Text,0):=by
    show(bif decide (n.Err≠0) then _ else _)=_
    rw[Alm (by simpa using a2)]<;>rfl
   rw[this]
   exact Agp (by omega) (by have:=Ala 13488881664 (show k<=1048576 by omega);omega) a2
 ·exact Agq hend.1 hend.2
theorem Mi {picks:List Int}(hw:Av m)(hp:picks.length<=1048576):Aj Tryz.prog 6 [] [.agg (Ae m),Ad true picks] [] (.tup [.agg (Cd (Ge m picks).1),Aa (Ge m picks).2]):=by
 unfold Ge
 cases h:Dt m with
 | true=>exact Agm hw h hp
 | false=>exact AiE hw h
end
def hiT : ByteArray:=⟨#[104,105]⟩
def hiM : D.Model:=⟨[],[],[],[],[⟨ByteArray.empty,0,[],[],[⟨[⟨⟨4,-1,-1,0,[],[],hiT⟩,1,0⟩],[],false,false,false,false,false⟩,⟨[],[],false,false,false,false,false⟩],0,1,1,1,-1⟩],-1,[]⟩
theorem AeE : Dt hiM=true:=by kernel_rfl
theorem AeV : (CI hiM [5,-5,0] (AH hiM)).Moves.length=2:=by kernel_rfl
theorem Ag7 : (CI hiM [5,-5,0] (AH hiM)).Over=true:=by kernel_rfl
theorem AeT : (CI hiM [5,-5,0] (AH hiM)).State.Procs.length=0:=by kernel_rfl
theorem AeU : (CI hiM [] (AH hiM)).Over=false:=by kernel_rfl
theorem Aca : (CI hiM [] (AH hiM)).State.Procs.length=1:=by kernel_rfl
theorem Ag6 : (CI hiM [5,-5,0] (AH hiM)).Text=hiT:=by kernel_rfl
theorem AhL : Av hiM:=by
 refine⟨⟨AkV _,fun y hy=>by cases hy⟩,⟨AkV _,fun y hy=>by cases hy⟩,⟨AkV _,fun y hy=>by cases hy⟩,⟨AkV _,fun y hy=>by cases hy⟩,⟨by decide,fun y hy=>?_⟩,rfl,⟨AkV _,fun y hy=>by cases hy⟩⟩
 obtain rfl:=Aln.1 hy
 refine⟨AkV _,rfl,⟨AkV _,fun y hy=>by cases hy⟩,⟨AkV _,fun y hy=>by cases hy⟩,⟨by decide,fun y hy=>?_⟩,rfl,rfl,rfl,rfl,rfl⟩
 rcases AlC.1 hy with rfl | hy
 ·refine⟨⟨by decide,fun y hy=>?_⟩,⟨AkV _,fun y hy=>by cases hy⟩,trivial,trivial,trivial,trivial,trivial⟩
  obtain rfl:=Aln.1 hy
  exact⟨⟨rfl,rfl,rfl,rfl,⟨AkV _,fun y hy=>by cases hy⟩,⟨AkV _,fun y hy=>by cases hy⟩,by decide⟩,rfl,rfl⟩
 ·obtain rfl:=Aln.1 hy
  exact⟨⟨AkV _,fun y hy=>by cases hy⟩,⟨AkV _,fun y hy=>by cases hy⟩,trivial,trivial,trivial,trivial,trivial⟩
section
variable {m : D.Model} {s:D.State}
theorem Xd {a:List Mv}(hl:a.length<=1048576):Aj Tryz.prog 7 [] [Ey true a,Ey true a] [] (Ac true):=by
 refine Ah Al Am Tryz.func7 (by kernel_rfl) rfl (Abh true a a) ⟨fun h=>by simp at h,fun _=>?_⟩
 change AB _ _ (Adz a a ((0:Nat):Int))
 refine AS Al Am a.length (fun k=>Adz a a k) (fun _=>True) (by kernel_rfl) (by kernel_rfl) trivial ?_
 intro k hk _ J next
 refine Ali (Xe true a a k J) ⟨fun hlt=>?_,fun _=>⟨trivial,VV.le_refl _⟩⟩
 have hlt':k<a.length:=by have:=A3 hlt;omega
 refine⟨⟨by omega,by omega⟩,⟨by omega,by omega⟩,fun h=>by simp at h,fun _=>next _ hlt' trivial (Up.of ?_)⟩
 rw[An (by omega)]
noncomputable def cLs (b:Bool):Ctx:=fc AO Ka Tryz.f5 [] (Ac b)
theorem Akp : Cf 0 (Aq [(1,.bp 0 0),(16,.agg (Ae hiM)),(17,.ow 1 0 3)] [.box (Ae hiM),.arr true 0 3 1 fun i=>List.take 1 (List.drop (i*1) [Aa 5,Aa (-5),Aa 0])])
  (Aq [(1,.bp 0 0),(16,.agg (Ae hiM)),(17,Ad true [5,-5,0])] [.box (Ae hiM)]):=by
 refine(Cv.pub (k:=2) (id:=1) rfl rfl).cf.trans (((QM.mk' (l:=[(1,.bp 0 0),(16,.agg (Ae hiM)),(17,.sl true 3 1 fun i=>List.take 1 (List.drop (i*1) [Aa 5,Aa (-5),Aa 0]))]) (l':=[(1,.bp 0 0),(16,.agg (Ae hiM)),(17,Ad true [5,-5,0])]) (hs':=[.box (Ae hiM),.gone 1]) ⟨⟨rfl,VV.le_refl _⟩,⟨rfl,VV.le_refl _⟩,⟨rfl,Amg (.inl rfl) fun i hi=>AQ (match i,hi with | 0,_=>rfl | 1,_=>rfl | 2,_=>rfl)⟩,trivial⟩ (Ea _)).cv.cf).trans (Cf.forget [1,16,17] (by kernel_rfl) (by kernel_rfl)))
theorem W4 : Aj Tryz.prog 5 [] [] [] (Ac true):=by
 refine Ah Al Am Tryz.func5 (by kernel_rfl) rfl (Ai4 true) ?_
 refine AB.pubB (hs':=[.box (Ae hiM),.gone 1,.gone 1,.gone 1]) 8 8 (by kernel_rfl) ?_
 refine AB.forget [1] (by kernel_rfl) ?_
 refine Eq.mpr (congrArg (AB _ _) (show Go.Proofs.YtmdcknlpalfhhaaGreatDoor.forget 0 [1] (Aq [(1,.bp 0 0)] [.box (Ae hiM),.gone 1,.gone 1,.gone 1])=Aq [(1,.bp 0 0)] [.box (Ae hiM)] by kernel_rfl)) ?_
 have hr1:Ge hiM [5,-5,0]=(CI hiM [5,-5,0] (AH hiM),0):=by unfold Ge;rw[AeE]<;>rfl
 have hr2:Ge hiM []=(CI hiM [] (AH hiM),0):=by unfold Ge;rw[AeE]<;>rfl
 have hs1:=Mi (picks:=[5,-5,0]) AhL (by decide)
 have hs2:=Mi (picks:=[]) AhL (by decide)
 rw[hr1]at hs1
 rw[hr2]at hs2
 have q1:=AeV
 have q2:=Ag6
 have q3:=Ag7
 have q4:=AeT
 have q5:=AeU
 have q6:=Aca
 generalize CI hiM [5,-5,0] (AH hiM)=r1 at *
 generalize CI hiM [] (AH hiM)=r2 at *
 refine Xa (c:=cLs true) (rel:=[1,1]) Al 1 (code:=(cLs true).sub [1,1,0]) (by kernel_rfl) (by kernel_rfl) (by kernel_rfl) rfl (by kernel_rfl) (by kernel_rfl) (by kernel_rfl) (by kernel_rfl) (by kernel_rfl) [1,16,17] [1,2,3] (Ali (AgV true hiM _) ⟨_,Akp,Ali (AgU true hiM [5,-5,0] _) ⟨(r1,0),hs1,?_⟩⟩)
 refine KN (c:=cLs true) (rel:=[1,1,1]) Al Am (by kernel_rfl) (AgT true hiM r1 0) ⟨(r2,0),hs2.le trivial ⟨VV.le_refl _,AlE,trivial⟩ trivial (VV.le_refl _),trivial,Al0 ?_⟩
 rw[q1,q2,q3,q4,q5,q6,show(hiT.toList==(⟨#[104,105]⟩:ByteArray).toList)=true from AmW _]<;>rfl
theorem L4 {P:List Int}(h:60<P.length):VV.le (.sl true 60 1 fun i=>AE P (Int.toNat 0+i)) (Ad true (P.take 60)):=by
 unfold Ad
 rw[show(P.take 60).length=60 by simp;omega]
 refine Amg (.inl rfl) fun i hi=>AQ ?_
 show[Aa (P.getD (0+i) 0)]=[Aa ((P.take 60).getD i 0)]
 rw[Alk]
 congr 2
 simp[List.getD,hi]
theorem Tu (a t:ByteArray):(a++t).extract 0 a.size=a:=by
 apply ByteArray.ext
 simp
noncomputable def cLg (b:Bool):Ctx:=fc AO I7 Tryz.f3 [] (Ac b)
theorem Acg {P A:List Int}(hw:Av m)(hp:P.length<=1048576)(ha:A.length<=1048576)(hA:∃ Q,A=P++Q) :
  AB (cLg true) [1,1,1,1,1,1,1] (Aq [(1,Ad true P),(3,.bp 0 0),(7,Ac true),(8,Ad true A)] [.box (Ae m)]):=by
 have h1:=Mi hw hp
 have h2:=Mi hw ha
 have key:(Ge m P).2=(Ge m A).2/\(∃ l,(Ge m A).1.Moves=(Ge m P).1.Moves++l)/\(∃ t,(Ge m A).1.Text=(Ge m P).1.Text++t) /\
   (((Ge m P).1.Over=true∨(Ge m P).1.Err≠0)->(Ge m A).1.Moves=(Ge m P).1.Moves/\(Ge m A).1.Err=(Ge m P).1.Err/\(Ge m A).1.Over=(Ge m P).1.Over)/\(Ge m P).1.Moves.length<=1048576:=by
  obtain⟨Q,rfl⟩:=hA
  unfold Ge
  cases c:Dt m with
  | false=>exact⟨rfl,⟨[],rfl⟩,⟨noT,rfl⟩,fun _=>⟨rfl,rfl,rfl⟩,AkV _⟩
  | true =>
   obtain⟨a,b,c2⟩:=Ro m P Q (AH m)
   exact⟨rfl,a,b,c2,Alg (YZ (Vn hw c)).2.1 hp⟩
 generalize Ge m P=y1 at *
 generalize Ge m A=y2 at *
 obtain⟨k1,⟨l,k2⟩,⟨t,k3⟩,k4,k5⟩:=key
 have hlm:y1.1.Moves.length<=y2.1.Moves.length:=by rw[k2,Ak4];omega
 have hlt:y1.1.Text.size<=y2.1.Text.size:=by rw[k3,Al7];omega
 refine KN (c:=cLg true) (rel:=[1,1,1,1,1,1,1]) Al Am (by kernel_rfl) (AgY true m P A true) ⟨y1,h1,y2,h2,fun hb=>?_,fun _=>⟨⟨Ama _,by omega,by omega⟩,true,(Xd k5).le trivial ⟨VV.le_refl _,?_,trivial⟩ trivial (VV.le_refl _),fun _=>⟨Ama _,by omega,by omega⟩,trivial,Al0 ?_⟩⟩
 ·rw[Alm (by omega),Alm (by omega),k1]at hb
  simp at hb
 ·unfold Ey
  rw[show((y1.1.Moves.length:Int) - 0).toNat=y1.1.Moves.length by omega]
  refine Amg (.inl rfl) fun i hi=>AQ ?_
  show Dl (y2.1.Moves.getD (0+i) default)=Dl (y1.1.Moves.getD i default)
  rw[Alk,k2]
  congr 1
  simp[Ak0 hi]
 ·have e1:(y2.1.Text.extract (Int.toNat 0) (y1.1.Text.size:Int).toNat).toList==y1.1.Text.toList:=by
   rw[show(y1.1.Text.size:Int).toNat=y1.1.Text.size by omega,show Int.toNat 0=0 from rfl,k3,Tu]
   exact AmW _
  rw[e1,AkQ,AkQ]
  have e2:(bif y1.1.Over then true else y1.1.Err != 0)=true->y2.1.Moves=y1.1.Moves/\y2.1.Err=y1.1.Err/\y2.1.Over=y1.1.Over:=fun h=>k4 (by
   rw[A7,AlV]at h
   exact h.imp id fun h=>by simpa using h)
  cases c:(bif y1.1.Over then true else y1.1.Err != 0) with
  | false=>rfl
  | true =>
   obtain⟨a,b,d⟩:=e2 c
   rw[a,b,d]
   simp
theorem Vi {P Q:List Int}(hw:Av m)(hp:P.length<=60)(hq:Q.length<=60) :
  AB (cLg true) [1,1,1,1] (Aq [(1,Ad true P),(2,Ad true Q),(3,.bp 0 0),(7,Ac true)] [.box (Ae m)]):=by
 refine KN (c:=cLg true) (rel:=[1,1,1,1]) Al Am (by kernel_rfl) (AgZ true m P Q true) ⟨by omega,fun _ _=>rfl,by omega,fun _ _=>rfl,?_⟩
 refine AB.cv (Cv.pub (k:=3) (id:=1) rfl rfl) ?_
 refine AB.forget [1,3,7,8] (by kernel_rfl) ?_
 have e1:Go.Proofs.YtmdcknlpalfhhaaGreatDoor.forget 0 [1,3,7,8] (Aq ([(1,Ad true P),(3,VV.bp 0 0),(7,Ac true),(8,.ow 1 0 (P.length+Q.length))].set 3 (8,.sl true (P.length+Q.length) 1 fun i=>bif i.blt P.length then AE P i else AE Q (i - P.length))) ([Ob.box (Ae m),.arr true 0 (P.length+Q.length) 1 fun i=>bif i.blt P.length then AE P i else AE Q (i - P.length)].set 1 (.gone (0+1)))) =
   Aq [(1,Ad true P),(3,.bp 0 0),(7,Ac true),(8,.sl true (P.length+Q.length) 1 fun i=>bif i.blt P.length then AE P i else AE Q (i - P.length))] [.box (Ae m)]:=by kernel_rfl
 show AB _ _ (Go.Proofs.YtmdcknlpalfhhaaGreatDoor.forget 0 [1,3,7,8] _)
 refine Eq.mpr (congrArg (AB _ _) e1) ?_
 refine AB.le (l':=[(1,Ad true P),(3,.bp 0 0),(7,Ac true),(8,Ad true (P++Q))]) (hs':=[.box (Ae m)]) ⟨⟨rfl,VV.le_refl _⟩,⟨rfl,VV.le_refl _⟩,⟨rfl,VV.le_refl _⟩,⟨rfl,?_⟩,trivial⟩ (Ea _) ?_
 ·unfold Ad
  rw[Ak4]
  exact Amg (.inl rfl) fun i hi=>AQ (BQ (f:=fun n=>[Aa n]) (d:=0) (l:=P) (r:=Q) (F:=AE P) (G:=AE Q) (fun _ _=>rfl) (fun _ _=>rfl) (by simp;omega))
 ·exact Acg hw (by omega) (by simp;omega) ⟨Q,rfl⟩
theorem Tq {P Q:List Int}{x y:VV}(hw:Av m)(hp:P.length<=60)(hq:Q.length<=60)(hx:VV.le x (Ad true P))(hy:VV.le y (Ad true Q)) :
  AB (cLg true) [1,1,1,1] (Aq [(1,x),(2,y),(3,.bp 0 0),(7,Ac true)] [.box (Ae m)]) :=
 AB.le (l':=[(1,Ad true P),(2,Ad true Q),(3,.bp 0 0),(7,Ac true)]) (hs':=[.box (Ae m)]) ⟨⟨rfl,hx⟩,⟨rfl,hy⟩,⟨rfl,VV.le_refl _⟩,⟨rfl,VV.le_refl _⟩,trivial⟩ (Ea _) (Vi hw hp hq)
theorem Ach {picks more:List Int}(hw:Av m):Aj Tryz.prog 3 [] [.agg (Ae m),Ad true picks,Ad true more] [] (Ac true):=by
 refine Ah Al Am Tryz.func3 (by kernel_rfl) rfl (Ai6 true m picks more) ⟨true,W4,fun h1=>⟨⟨Ama _,by omega,by have:=AkW h1;omega⟩,fun h2=>⟨⟨Ama _,by omega,by have:=AkW h2;omega⟩,?_⟩,fun h2=>?_⟩,fun h1=>⟨fun h2=>⟨⟨Ama _,by omega,by have:=AkW h2;omega⟩,?_⟩,fun h2=>?_⟩⟩
 ·have h1:=AkW h1
  have h2:=AkW h2
  exact Tq hw (by simp;omega) (by simp;omega) (L4 (P:=picks) (by omega)) (L4 (P:=more) (by omega))
 ·have h1:=AkW h1
  have h2:=Ak6 h2
  exact Tq hw (by simp;omega) (by omega) (L4 (P:=picks) (by omega)) (VV.le_refl _)
 ·have h1:=Ak6 h1
  have h2:=AkW h2
  exact Tq hw (by omega) (by simp;omega) (VV.le_refl _) (L4 (P:=more) (by omega))
 ·have h1:=Ak6 h1
  have h2:=Ak6 h2
  exact Vi hw (by omega) (by omega)
end
end Go.Proofs.YtmdcknlpalfhhaaGreatDoor
namespace Go.Proofs.YtmdcknlpalfhhaaGreatDoor
open Go.ChangeShapes Go.WideShapes Go.ChangeAt Go.RowKit
theorem own : ownKnob Tryz.prog.godebug=none:=by kernel_rfl
theorem Ag2 : laidOutB Tryz.prog=true:=by kernel_rfl
theorem QR {H:Type}{enc:TypeId × Value->H}{P:Program}(hl:laidOutB P=true){W W':World}(hb:Below W.heap.size W W') :
  ∀ (ts:List TypeId) (vs:List Value) (ds:List (DataW H)) (ps:List MemPlace),ts.all (fun t=>P.readableRec t&&decide (t<P.types.size))=true ->
   DataW.TrodAll enc P W 0 (fun _=>true) true ts vs ds ps->DataW.TrodAll enc P W' 0 (fun b=>decide (b<W.heap.size)) true ts vs ds ps:=by
 intro ts
 induction ts with
 | nil =>
  intro vs ds ps _ h
  obtain⟨rfl,rfl,rfl⟩:=trodAll_nil h
  exact trodAll_mk0
 | cons t ts ih =>
  intro vs ds ps ht h
  rw[AmL,AkO,AkO]at ht
  obtain⟨v,vs',d,ds',p,q,rfl,rfl,rfl,h1,h2⟩:=trodAll_cons h
  have lt1:∀ x∈p,x.block<W.heap.size:=by obtain⟨m,hm⟩:=h1;exact DataW.trod_lt m _ _ _ hm
  exact trodAll_cons_mk (Below.trod hl ht.1.1 (AkW ht.1.2) h1 hb lt1) (ih vs' ds' q ht.2 h2)
theorem AeM {H:Type}{enc:TypeId × Value->H}{P:Program}{f:Func}{s:ChangeSpec}{tb:TypeId}(hl:laidOutB P=true)
  (hp:f.params.toList.all (fun t=>P.readableRec t&&decide (t<P.types.size))=true) (hr:f.resultTypes=#[tb]) (htb:P.underlying tb=some .bool) (hvars:s.vars=[])
  {W W':World} {args:Array Value} {ds gs:List (DataW H)} {before:List MemPlace}
  (hW:DataW.Whole enc P f.params.toList s.vars false W args.toList ds gs before)
  (hfn:∀ ds,ds.length=f.params.toList.length->s.fn H ds={ results:=[.lit (.bool true)],args:=ds }) (hb:Below W.heap.size W W') :
  s.post enc P f false true false false W args (.bool true) W':=by
 have hW':=hW
 obtain⟨p,q,hA,hV,rfl,hfz,hnd⟩:=hW
 rw[hvars]at hV
 obtain⟨rfl,rfl⟩:=trodVars_none hV
 have hlen:∀ (ts:List TypeId) (vs:List Value) (ds:List (DataW H)) (ps:List MemPlace),DataW.TrodAll enc P W 0 (fun _=>true) true ts vs ds ps->ds.length=ts.length:=by
  intro ts
  induction ts with
  | nil=>intro vs ds ps h;obtain⟨_,rfl,_⟩:=trodAll_nil h;rfl
  | cons t ts ih=>intro vs ds ps h;obtain⟨v,vs',d,ds',p,q,rfl,rfl,rfl,_,h2⟩:=trodAll_cons h;simp[ih _ _ _ h2]
 have hf:=hfn (ds++[]) (by simpa using hlen _ _ _ _ hA)
 refine⟨ds,[],_,[],p,[],hW',?_,?_,?_,hb.frame _,fun h=>by cases h⟩
 ·rw[hf,hr];exact trodAll_mk1 (shut_bool htb _)
 ·rw[hf,AlN];exact QR hl hb _ _ _ _ hp hA
 ·rw[hf,hvars];rfl
theorem Akq : (Tryz.prog.globals[3]?).map (·.type)=some 256:=by kernel_rfl
theorem Afo : Tryz.prog.cellsOf 256=20:=by kernel_rfl
theorem Afn : Tryz.prog.cellsOf 207=1:=by kernel_rfl
theorem AkI : (Tryz.prog.globals[7]?).map (·.type)=some 310:=by kernel_rfl
theorem Ahy : Tryz.prog.cellsOf 310=64:=by kernel_rfl
theorem Ahx : Tryz.prog.cellsOf 5=1:=by kernel_rfl
theorem AbN : Rows.simGoesOnRow.laid.filter (fun x=>x.2.handleName?.isSome)=[]:=by kernel_rfl
theorem AeJ {W:World}(h:laidMetH Tryz.prog Rows.simGoesOnRow.laid W):Cn W/\∀ k,k∈D8->k<W.heap.size:=by
 unfold laidMetH at h
 rw[AbN]at h
 have h:laidMet Tryz.prog Rows.simGoesOnRow.laid W:=h
 have h1:=h.tail
 have h2:=h1.tail
 have hL:Cn W:=⟨Lib.tabIs_of_head Te Akq Tryz.underlying256 Tryz.underlying207 Afn Afo h2,
  Lib.tabIs_of_head RL AkI Tryz.underlying310 Tryz.underlying5 Ahx Ahy h1⟩
 refine⟨hL,fun k hk=>?_⟩
 have lt:∀ {g i:Nat} {v:Value},W.cell? ⟨g,i,none⟩=some v->g<W.heap.size:=fun{g i v} h=>by
  rcases Alw g W.heap.size with h' | h'
  ·exact h'
  ·simp[World.cell?,Array.getElem?_eq_none h']at h
 simp only[D8,AlC,List.mem_nil_iff,or_false]at hk
 rcases hk with rfl | rfl
 ·exact lt (hL.tab.cell Te 0 (by decide))
 ·exact lt (hL.db.cell RL 0 (by decide))
def AhT : DataW Unit->Value
 | .lit (.int k n)=>.int k n
 | _=>undef
def Ae4 : DataW Unit->Array Value
 | .agg l=>(l.flatMap fun x=>match x with
  | .agg m=>m.map AhT
  | y=>[AhT y]).toArray
 | _=>#[]
def AiT (c:Array Value):Obj->Obj
 | .cells _ t frozen=>.cells c t frozen
 | o=>o
noncomputable def Nl (os:Os):World :=
 let w0:=World.holding Tryz.prog os ⟨#[],#[],[]⟩
 { w0 with heap:=((w0.heap.modify 6 (AiT (Ae4 Rows.laid_math_bits_deBruijn32tab))).modify 7 (AiT (Ae4 Rows.laid_math_bits_deBruijn64tab))).modify 3 (AiT (Ae4 Rows.laid_internal_strconv_uint64pow10)) }
def UY : Value:=.slice none 0 0
def zI : Value:=.int .i64 0
def Yz : Array Value:=#[.agg #[UY,UY,UY,UY,UY,zI,UY],UY,UY]
set_option maxRecDepth 100000 in
theorem AeN (os:Os):laidMet Tryz.prog Rows.simGoesOnRow.laid ((Nl os).forCall (fun _ _=>0) ⟨#[],Yz,[]⟩).memory :=
 laidMet_of_run' 8 (by kernel_rfl) (by kernel_rfl)
end Go.Proofs.YtmdcknlpalfhhaaGreatDoor
