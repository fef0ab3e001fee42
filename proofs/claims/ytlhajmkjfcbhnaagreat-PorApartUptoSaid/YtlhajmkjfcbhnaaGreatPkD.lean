/-
  Texts, joined: EmP, EmH, CsPlain, CsQ, CsPut, CsTake, WhP, WhI, WhJ, WhA, WhK, WhH, ShelfP, PrN, PrP, SpP, SpE, VjIt3, SpA, QsS, QtS, VjLay, PoS, PoD, PoK, PoA, PoH, QtA, QtH, QsA, QsH, QsE1, QsE2, QsE3, QsE4, QsE5, QsW1, QsW2, QsW3, QsW4, EmW1, WhW1, QtW1, VjFz.
-/
import Derived.Test.YtlhajmkjfcbhnaaGreatPkC
import Derived.Lib.ItoaLen
import Derived.Lib.AppendIntMem
import Derived.Lib.SmallJoins
import Derived.KernelRfl
namespace Go.Proofs.YtlhajmkjfcbhnaaGreat
open Go.RowKit
def stE (e:D.Env)(x v:Int):D.Env:=bif decide ((BM e x v).2=0) then{ e with S:=(BM e x v).1 } else e
def Dw (m mt:List Int):Nat->List Int->D.Env->D.Env × Int
 | _,[],e=>(e,0)
 | k,x::r,e=>bif decide (mt.getD k 0≠0) then Dw m mt (k+1) r e
   else bif decide ((BM e x (m.getD k 0)).2≠0) then(e,(BM e x (m.getD k 0)).2) else Dw m mt (k+1) r (stE e x (m.getD k 0))
def Ee (e:D.Env)(s:D.Stmt)(m:List Int):D.Env × Int:=Dw m s.Match 0 s.Args e
structure Nv (e e':D.Env):Prop where
 M:e'.M=e.M
 pid:e'.Pid=e.Pid
 t:e'.Timeout=e.Timeout
 a:e'.Able=e.Able
 chans:e'.S.Chans=e.S.Chans
 procs:e'.S.Procs.length=e.S.Procs.length
theorem Nv.refl (e:D.Env):Nv e e:=⟨rfl,rfl,rfl,rfl,rfl,rfl⟩
theorem Nv.trans {a b c:D.Env}(h:Nv a b)(k:Nv b c):Nv a c:=⟨k.M.trans h.M,k.pid.trans h.pid,k.t.trans h.t,k.a.trans h.a,k.chans.trans h.chans,k.procs.trans h.procs⟩
theorem ZY (m:D.Model)(s:D.State)(who k v:Int):(IA m s who k v).Chans=s.Chans/\(IA m s who k v).Procs.length=s.Procs.length:=by
 unfold IA
 cases decide (who<0) with
 | true=>exact⟨rfl,rfl⟩
 | false=>exact⟨rfl,by simp[Ts]⟩
theorem Vx {e:D.Env}{x v:Int}(h:(BM e x v).2=0):(BM e x v).1.Chans=e.S.Chans/\(BM e x v).1.Procs.length=e.S.Procs.length:=by
 unfold BM at h ⊢
 cases c1:decide (B8 e x≠0) with
 | true =>
  grind
 | false =>
  rw[c1,cond_false]at h
  rw[cond_false]
  cases c2:decide ((Bl e (D0 e) (Ao e.M x)).2.2≠0) with
  | true =>
   grind
  | false=>rw[cond_false];exact ZY _ _ _ _ _
theorem Tk (e:D.Env)(x v:Int):Nv e (stE e x v):=by
 unfold stE
 cases c:decide ((BM e x v).2=0) with
 | true =>
  obtain⟨h1,h2⟩:=Vx (of_decide_eq_true c)
  exact⟨rfl,rfl,rfl,rfl,h1,h2⟩
 | false=>exact Nv.refl e
theorem G0 (m mt:List Int):∀ (l:List Int) (k:Nat) (e:D.Env),Nv e (Dw m mt k l e).1
 | [],_,e=>Nv.refl e
 | x::r,k,e=>by
  unfold Dw
  cases decide (mt.getD k 0≠0) with
  | true=>exact G0 m mt r (k+1) e
  | false =>
   rw[cond_false]
   cases decide ((BM e x (m.getD k 0)).2≠0) with
   | true=>exact Nv.refl e
   | false=>exact(Tk e x _).trans (G0 m mt r (k+1) _)
theorem QE {e:D.Env}{c:Int}{m:List Int}{i:Int}{p:Pn}:∀ {ws:List D.Trans} {k:Nat},p∈DW e c m i k ws->p.pid=e.Pid/\p.esc=i/\∃ j:Nat,p.way=((k+j:Nat):Int)/\j<ws.length/\DE e (ws.getD j default).S c m=true
 | [],_,h=>by cases h
 | t::r,k,h=>by
  rcases List.mem_append.1 (show p∈(bif DE e t.S c m then[(⟨e.Pid,i,k⟩:Pn)] else[])++DW e c m i (k+1) r from h) with h | h
  ·cases q:DE e t.S c m with
   | false=>rw[q]at h;cases h
   | true =>
    rw[q]at h
    obtain rfl:=List.mem_singleton.1 h
    exact⟨rfl,rfl,0,rfl,Nat.succ_pos _,q⟩
  ·obtain⟨h1,h2,j,h3,h4,h5⟩:=QE h
   exact⟨h1,h2,j+1,by rw[h3];congr 1;omega,Nat.succ_lt_succ h4,h5⟩
theorem QA {e:D.Env}{c:Int}{m:List Int}{p:Pn}:∀ {l:List (Int × List D.Trans)},p∈Gr e c m l->∃ i ws,(i,ws)∈l/\p∈DW e c m i 0 ws
 | [],h=>by cases h
 | (i,ws)::r,h=>by
  have hq:Gr e c m ((i,ws)::r)=bif decide (0<(DW e c m i 0 ws).length)||isSome (Dj e Hu ws true) then DW e c m i 0 ws else Gr e c m r:=rfl
  rw[hq]at h
  cases c1:(decide (0<(DW e c m i 0 ws).length)||isSome (Dj e Hu ws true)) with
  | true=>rw[c1]at h;exact⟨i,ws,List.mem_cons_self,h⟩
  | false =>
   rw[c1]at h
   obtain⟨i',ws',h1,h2⟩:=QA h
   exact⟨i',ws',List.mem_cons_of_mem _ h1,h2⟩
theorem Aat {e:D.Env}{c:Int}{m:List Int}{p:Pn}(h:p∈DO e c m):p.pid=e.Pid/\-1<=p.esc/\p.esc<(Br e).Esc.length/\0<=p.way/\p.way<(CH (Br e) p.esc).length /\
  ((CH (Br e) p.esc).getD p.way.toNat default).S.Kind=6/\((CH (Br e) p.esc).getD p.way.toNat default).S.Args.length=m.length:=by
 unfold DO at h
 cases c1:(!(A6 e).1||decide ((A6 e).2≠0)) with
 | true=>rw[c1]at h;cases h
 | false =>
  rw[c1,cond_false]at h
  obtain⟨i,ws,hi,hp⟩:=QA h
  obtain⟨e1,e2,j,e3,e4,e5⟩:=QE hp
  obtain⟨l1,l2,l3,_⟩:=Fo hi
  rw[e2,l1]
  refine⟨e1,l2,l3,by rw[e3];omega,by rw[e3];omega,?_⟩
  rw[show p.way.toNat=j by rw[e3];omega]
  unfold DE at e5
  grind
theorem O7 {e:D.Env}{c:Int}{m:List Int}{p:Pn}:∀ {n:Nat},p∈Da e c m n->∃ q:Nat,q<n/\(q:Int)≠e.Pid/\p∈DO (Bq e q) c m
 | 0,h=>by cases h
 | n+1,h=>by
  rcases List.mem_append.1 (show p∈Da e c m n++(bif decide ((n:Int)≠e.Pid) then DO (Bq e n) c m else[]) from h) with h | h
  ·obtain⟨q,h1,h2⟩:=O7 h
   exact⟨q,by omega,h2⟩
  ·cases c1:decide ((n:Int)≠e.Pid) with
   | true=>rw[c1]at h;exact⟨n,Nat.lt_succ_self _,of_decide_eq_true c1,h⟩
   | false=>rw[c1]at h;cases h
theorem Ve {ev:Evl}:∀ {l out:List Int},(Iv ev out l).2=0->(Iv ev out l).1.length=out.length+l.length
 | [],out,_=>rfl
 | x::l,out,h=>by
  have hq:Iv ev out (x::l)=bif decide ((ev x).2≠0) then([],(ev x).2) else Iv ev (out++[(ev x).1]) l:=rfl
  rw[hq]at h ⊢
  cases c:decide ((ev x).2≠0) with
  | true=>rw[c]at h;exact absurd h (of_decide_eq_true c)
  | false =>
   rw[c,cond_false]at h
   rw[cond_false,Ve h]
   simp;omega
theorem Uw {e:D.Env}{s:D.Stmt}(h:(Ax e s).2.2=0):(Ax e s).2.1.length=s.Args.length:=by
 unfold Ax at h ⊢
 cases c1:decide ((AC e s.A).2≠0) with
 | true=>grind
 | false =>
  rw[c1,cond_false]at h
  rw[cond_false]
  cases c2:decide ((Bo e (AC e s.A).1).length≠s.Args.length) with
  | true=>rw[c2]at h;cases h
  | false =>
   rw[c2,cond_false]at h
   rw[cond_false]
   cases c3:decide ((BI e s.Args).2≠0) with
   | true=>grind
   | false =>
    rw[cond_false]
    have h0:(BI e s.Args).2=0:=by simpa using c3
    have:=Ve (ev:=Bh e) (l:=s.Args) (out:=[]) h0
    rw[List.length_nil,Nat.zero_add]at this
    show(Hy _ _).length=_
    unfold Hy
    rw[List.length_map,List.length_range]
    exact this
theorem ZO {e:D.Env}{mt:Int->List Int->List Pn}{s:D.Stmt}{self:Bool}{p:Pn}(h:p∈(BA e mt s self).wth):s.Kind=5/\(Ax e s).2.2=0/\p∈mt (AC e s.A).1 (Ax e s).2.1:=by
 have no:∀ {q:Prop},p∈([]:List Pn)->q:=fun h=>by cases h
 unfold BA at h
 split at h
 ·cases q:BJ e s.A<;>rw[q]at h<;>exact no h
 split at h
 ·cases q:BJ e s.B<;>rw[q]at h<;>exact no h
 split at h
 ·exact no h
 split at h
 ·rename_i hk
  refine⟨hk,?_⟩
  unfold Fg at h
  grind
 grind
theorem AeU {e:D.Env}{w:Wy}(hw:w∈AF e) :
  (w.With<0->w.WithEsc=-1/\w.WithWay=-1) /\
  (0<=w.With->0<=w.Way/\w.With≠e.Pid/\w.With<e.S.Procs.length/\((CH (Br e) w.Esc).getD w.Way.toNat default).S.Kind=5/\-1<=w.WithEsc/\w.WithEsc<(Br (Bq e w.With)).Esc.length/\0<=w.WithWay /\
   w.WithWay<(CH (Br (Bq e w.With)) w.WithEsc).length/\((CH (Br (Bq e w.With)) w.WithEsc).getD w.WithWay.toNat default).S.Kind=6 /\
   ((CH (Br e) w.Esc).getD w.Way.toNat default).S.Args.length=((CH (Br (Bq e w.With)) w.WithEsc).getD w.WithWay.toNat default).S.Args.length):=by
 rcases FH (e:=e) with h | ⟨er,h⟩ | ⟨i,ws,hi,h⟩
 ·rw[h]at hw;cases hw
 ·rw[h]at hw
  obtain rfl:=List.mem_singleton.1 hw
  exact⟨fun _=>⟨rfl,rfl⟩,fun h0=>by unfold Nl at h0;simp at h0⟩
 ·rw[h]at hw
  obtain⟨hl,h1,h2,_⟩:=Fo hi
  have key:∀ {l:List Ab} {k:Nat},w∈DC i k l->∃ (j:Nat) (x:Ab),l[j]?=some x/\w∈Fa i (k+j) x:=by
   intro l
   induction l with
   | nil=>intro k h;cases h
   | cons x r ih =>
    intro k h
    rcases List.mem_append.1 (show w∈Fa i k x++DC i (k+1) r from h) with h | h
    ·exact⟨0,x,rfl,h⟩
    ·obtain⟨j,y,a,b⟩:=ih h
     exact⟨j+1,y,a,by grind⟩
  obtain⟨j,x,a1,a2⟩:=key hw
  obtain⟨b1,rfl⟩:=KF a1
  rw[Nat.zero_add]at a2
  rcases List.mem_append.1 a2 with a2 | a2
  ·cases c:((C1 e (Bm e) ws false j).is&&decide ((C1 e (Bm e) ws false j).wth.length=0)) with
   | false=>rw[c]at a2;cases a2
   | true =>
    grind
  ·obtain⟨p,hp,rfl⟩:=List.mem_map.1 a2
   have hwth:(C1 e (Bm e) ws false j).wth=(BA e (Bm e) (ws.getD j default).S false).wth:=by
    unfold C1
    grind
   rw[hwth]at hp
   obtain⟨s1,s2,s3⟩:=ZO hp
   obtain⟨q,q1,q2,q3⟩:=O7 (show p∈Da e _ _ e.S.Procs.length from s3)
   obtain⟨r1,r2,r3,r4,r5,r6,r7⟩:=Aat q3
   have r1':p.pid=q:=r1
   have hat:Bq e p.pid=Bq e q:=by rw[r1']
   refine⟨fun h0=>?_,fun _=>?_⟩
   ·have h0':p.pid<0:=h0
    rw[r1']at h0';omega
   ·show 0<=(j:Int)/\p.pid≠e.Pid/\p.pid<e.S.Procs.length/\((CH (Br e) i).getD (j:Int).toNat default).S.Kind=5/\-1<=p.esc/\p.esc<(Br (Bq e p.pid)).Esc.length/\0<=p.way/\p.way<(CH (Br (Bq e p.pid)) p.esc).length /\
     ((CH (Br (Bq e p.pid)) p.esc).getD p.way.toNat default).S.Kind=6/\((CH (Br e) i).getD (j:Int).toNat default).S.Args.length=((CH (Br (Bq e p.pid)) p.esc).getD p.way.toNat default).S.Args.length
    grind [Uw]
end Go.Proofs.YtlhajmkjfcbhnaaGreat
namespace Go.Proofs.YtlhajmkjfcbhnaaGreat
end Go.Proofs.YtlhajmkjfcbhnaaGreat
namespace Go.Proofs.YtlhajmkjfcbhnaaGreat.Ch
def lessP : List Int->List Int->Bool
 | a::aa,b::bs=>if a=b then lessP aa bs else decide (a<b)
 | [],_::_=>true
 | _,[]=>false
theorem Kw : ∀ (n:Nat) (xs ys:List Int),n<=xs.length->n<=ys.length->(∀ j,j<n->xs.getD j 0=ys.getD j 0)->lessP xs ys=lessP (xs.drop n) (ys.drop n)
 | 0,_,_,_,_,_=>rfl
 | n+1,a::aa,b::bs,h1,h2,h=>by
  have h0:=h 0 (by omega)
  simp only[List.getD_cons_zero]at h0
  subst h0
  rw[lessP,if_pos rfl,List.drop_succ_cons,List.drop_succ_cons]
  exact Kw n aa bs (by simpa using h1) (by simpa using h2) fun j hj=>by simpa using h (j+1) (by omega)
 | n+1,[],_,h1,_,_=>by simp at h1
 | n+1,_::_,[],_,h2,_=>by simp at h2
theorem N4 {α:Type}[Inhabited α](xs:List α)(n:Nat)(d:α)(h:n<xs.length):xs.drop n=xs.getD n d::xs.drop (n+1):=by
 rw[List.drop_eq_getElem_cons h];simp[List.getD,h]
theorem lessP_differ (n:Nat)(xs ys:List Int)(h1:n<xs.length)(h2:n<ys.length)(h:∀ j,j<n->xs.getD j 0=ys.getD j 0)(hne:xs.getD n 0≠ys.getD n 0):lessP xs ys=decide (xs.getD n 0<ys.getD n 0):=by
 rw[Kw n xs ys (by omega) (by omega) h,N4 xs n 0 h1,N4 ys n 0 h2,lessP,if_neg hne]
theorem lessP_end (n:Nat)(xs ys:List Int)(h1:n<=xs.length)(h2:n<=ys.length)(h3:n=xs.length∨n=ys.length)(h:∀ j,j<n->xs.getD j 0=ys.getD j 0):lessP xs ys=decide (xs.length<ys.length):=by
 rw[Kw n xs ys h1 h2 h]
 by_cases hx:n=xs.length
 ·rw[hx,List.drop_length]
  by_cases hy:xs.length<ys.length
  ·rw[N4 ys _ 0 hy,lessP];simp[hy]
  ·rw[List.drop_eq_nil_of_le (by omega),lessP];simp[hy]
 ·have hy:n=ys.length:=by omega
  subst hy
  rw[List.drop_length,N4 xs _ 0 (by omega),lessP];simp;omega
def firstP (x:List Int):List (List Int)->Nat
 | []=>0
 | y::q=>if lessP x y then 0 else firstP x q+1
end Go.Proofs.YtlhajmkjfcbhnaaGreat.Ch
namespace Go.Proofs.YtlhajmkjfcbhnaaGreat.Ch
open Go.RowKit
def typeP (t:D.Type):Bool:=decide (1<=t.Bits)&&decide (t.Bits<=32)&&(!t.Signed||decide (t.Bits=16)||decide (t.Bits=32))
def putAt {α:Type}(l:List α)(i:Nat)(x:α):List α:=l.take i++x::l.drop i
def fitM (fs:List D.Type)(m:List Int):List Int:=List.zipWith (fun t v=>Ih t.Bits t.Signed v) fs m
def putE (room:Int)(fs:List D.Type)(q:List (List Int))(m:List Int):Int :=
 if m.length≠fs.length then 42 else if fs.all typeP=false then 42 else if room<=q.length then 45 else 0
def putX (fs:List D.Type)(q:List (List Int))(m:List Int)(sorted:Bool):List (List Int):=putAt q (if sorted then firstP (fitM fs m) q else q.length) (fitM fs m)
def putSh (room:Int)(fs:List D.Type)(q:List (List Int))(m:List Int)(sh:Int):Int:=if putE room fs q m=0 then sh else 0
def putQ (room:Int)(fs:List D.Type)(q:List (List Int))(m:List Int)(sorted:Bool):List (List Int):=if putE room fs q m=0 then putX fs q m sorted else[]
theorem fitM_len {fs:List D.Type}{m:List Int}(h:m.length=fs.length):(fitM fs m).length=m.length:=by simp[fitM,h]
def cutAt {α:Type}(l:List α)(i:Nat):List α:=l.take i++l.drop (i+1)
theorem cutAt_len {α:Type}{l:List α}{i:Nat}(h:i<l.length):(cutAt l i).length=l.length - 1:=by
 unfold cutAt;simp;omega
end Go.Proofs.YtlhajmkjfcbhnaaGreat.Ch
namespace Go.Proofs.YtlhajmkjfcbhnaaGreat
end Go.Proofs.YtlhajmkjfcbhnaaGreat
namespace Go.Proofs.YtlhajmkjfcbhnaaGreat
end Go.Proofs.YtlhajmkjfcbhnaaGreat
namespace Go.Proofs.YtlhajmkjfcbhnaaGreat
open Go.RowKit
def KI (f:List D.Type)(args init:List Int)(k:Nat):List Int:=(List.range init.length).map fun i=>if i<k then KB (f.getD i default) (args.getD i 0) else init.getD i 0
def Ft (m:D.Model)(typ:Int)(args:List Int):D.Process:=⟨typ,(AN m typ).Start,(AN m typ).Prio,KI (AN m typ).Frame args (AN m typ).Init args.length⟩
def Ai3 : D.Process:=⟨0,0,0,[]⟩
def IV (m:D.Model)(typ:Int)(args:List Int):D.Process × Int :=
 bif !F2 m then(Ai3,40)
 else bif decide (typ<0)||(decide ((m.Procs.length:Int)<=typ)||(decide (typ=m.Claim)||decide ((args.length:Int)≠(AN m typ).Params))) then(Ai3,42)
 else(Ft m typ args,0)
def FW (e:D.Env)(p:D.Process):D.Env:={ e with S:={ e.S with Procs:=e.S.Procs++[p] } }
def Bj (e:D.Env)(x:Int):D.Env × Int × Int :=
 bif decide ((BI e (Ao e.M x).Args).2≠0) then(e,0,(BI e (Ao e.M x).Args).2)
 else bif decide ((IV e.M (Ao e.M x).N (BI e (Ao e.M x).Args).1).2≠0) then(e,0,(IV e.M (Ao e.M x).N (BI e (Ao e.M x).Args).1).2)
 else(FW e (IV e.M (Ao e.M x).N (BI e (Ao e.M x).Args).1).1,e.S.Procs.length,0)
def Be (e:D.Env)(x v:Int):D.Env × Int:=(stE e x v,(BM e x v).2)
def Ei (e:D.Env)(s:D.Stmt):D.Env × Int :=
 bif BJ e s.B then(bif decide ((Bj e s.B).2.2≠0) then((Bj e s.B).1,(Bj e s.B).2.2) else Be (Bj e s.B).1 s.A (Bj e s.B).2.1)
 else bif decide ((Bh e s.B).2≠0) then(e,(Bh e s.B).2) else Be e s.A (Bh e s.B).1
def Hj (e:D.Env)(c:Int)(k:D.Chan):D.Env:={ e with S:={ e.S with Chans:=e.S.Chans.set (c - 1).toNat k } }
def Dy (k:D.Chan)(n:Int):D.Chan × List Int × Int :=
 bif decide (n<0)||decide ((k.Queue.length:Int)<=n) then(⟨0,[]⟩,[],46) else(⟨k.Shape,Ch.cutAt k.Queue n.toNat⟩,k.Queue.getD n.toNat [],0)
def D5 (e:D.Env)(s:D.Stmt):D.Env × Int :=
 bif decide ((Bg e s).2.2≠0) then(e,(Bg e s).2.2)
 else bif decide ((Dy (BP e (Bg e s).1) (Bg e s).2.1).2.2≠0) then(e,(Dy (BP e (Bg e s).1) (Bg e s).2.1).2.2)
 else Ee (bif decide (s.N<2) then Hj e (Bg e s).1 (Dy (BP e (Bg e s).1) (Bg e s).2.1).1 else e) s (Dy (BP e (Bg e s).1) (Bg e s).2.1).2.1
def RX (m:D.Model)(k:D.Chan)(l:List Int)(sorted:Bool):D.Chan × Int :=
 (⟨Ch.putSh (BW m k.Shape).Room (BW m k.Shape).Fields k.Queue l k.Shape,Ch.putQ (BW m k.Shape).Room (BW m k.Shape).Fields k.Queue l sorted⟩,Ch.putE (BW m k.Shape).Room (BW m k.Shape).Fields k.Queue l)
def Qt (e:D.Env)(s:D.Stmt):D.Env × Int :=
 (Hj e (Ax e s).1 (RX e.M (BP e (Ax e s).1) (Ax e s).2.1 (decide (s.N=1))).1,(RX e.M (BP e (Ax e s).1) (Ax e s).2.1 (decide (s.N=1))).2)
def BG (e:D.Env)(w:Wy):D.Trans:=(CH (Br e) w.Esc).getD w.Way.toNat default
def DZ (e:D.Env)(w:Wy):D.Trans:=(CH (Br (Bq e w.With)) w.WithEsc).getD w.WithWay.toNat default
def ER (e:D.Env)(s:D.Stmt)(w:Wy):D.Env × Int :=
 bif decide ((Ax e s).2.2≠0) then(e,(Ax e s).2.2)
 else bif decide (0<=w.With) then({ e with S:=(Ee (Bq e w.With) (DZ e w).S (Ax e s).2.1).1.S },(Ee (Bq e w.With) (DZ e w).S (Ax e s).2.1).2)
 else Qt e s
def EK (e:D.Env)(n:Int):D.Env:={ e with S:={ e.S with Chans:=e.S.Chans++[⟨n,[]⟩] } }
def FB (e:D.Env)(s:D.Stmt):Int:=bif decide ((Bh e s.A).2=0)&&decide ((Bh e s.A).1=0) then 50 else(Bh e s.A).2
def Bn (pr:ByteArray->List Int->ByteArray)(e:D.Env)(s:D.Stmt)(w:Wy):D.Env × ByteArray × Int :=
 if s.Kind=1 then(bif BJ e s.A then((Bj e s.A).1,⟨#[]⟩,(Bj e s.A).2.2) else(e,⟨#[]⟩,0))
 else if s.Kind=2 then((Ei e s).1,⟨#[]⟩,(Ei e s).2)
 else if s.Kind=3 then(e,⟨#[]⟩,FB e s)
 else if s.Kind=4 then(e,bif decide ((BI e s.Args).2≠0) then⟨#[]⟩ else pr s.Text (BI e s.Args).1,(BI e s.Args).2)
 else if s.Kind=9 then((Be (EK e s.N) s.A (e.S.Chans.length+1:Nat)).1,⟨#[]⟩,(Be (EK e s.N) s.A (e.S.Chans.length+1:Nat)).2)
 else if s.Kind=5 then((ER e s w).1,⟨#[]⟩,(ER e s w).2)
 else if s.Kind=6 then((D5 e s).1,⟨#[]⟩,(D5 e s).2)
 else(e,⟨#[]⟩,0)
def CK (l:List D.Process)(k to:Int):List D.Process:=l.set k.toNat { l.getD k.toNat default with Loc:=to }
def G1 (e:D.Env)(w:Wy)(s:D.State):D.State :=
 { s with Procs:=CK (bif decide (0<=w.With) then CK s.Procs w.With (DZ e w).To else s.Procs) e.Pid (BG e w).To,Last:=e.Pid }
def Aiq (e:D.Env):D.State:={ e.S with Procs:=e.S.Procs.take e.Pid.toNat,Last:=e.Pid,Alone:=bif decide (e.Pid<=e.S.Alone) then -1 else e.S.Alone }
def P3 : D.State:=⟨[],[],[],0,0,0⟩
def goE (pr:ByteArray->List Int->ByteArray)(e:D.Env)(w:Wy):D.State × ByteArray × Int :=
 bif decide (w.Err≠0) then(P3,⟨#[]⟩,w.Err) else bif decide (w.Way<0) then(Aiq e,⟨#[]⟩,0)
 else bif decide ((Bn pr e (BG e w).S w).2.2≠0) then(P3,⟨#[]⟩,(Bn pr e (BG e w).S w).2.2)
 else(G1 e w (Bn pr e (BG e w).S w).1.S,(Bn pr e (BG e w).S w).2.1,0)
structure EF (m:D.Model) (s:D.State):Prop where
 g:Bi m.Globals s.Globals=true
 cl:s.Chans.length<=32
 pl:s.Procs.length<=16
 l:0<=s.Last/\s.Last<16
 a:-1<=s.Alone/\s.Alone<s.Procs.length
 c:∀ c∈s.Chans,CQ m c=true
 p:∀ p∈s.Procs,AT m p=true
 k:Et m s=true
theorem Cw {m:D.Model}{s:D.State}:CR m s=true ↔ EF m s:=by
 unfold CR GB
 simp only[Bool.and_eq_true,decide_eq_true_eq]
 rw[Co (d:=default) (f:=fun c=>CQ m c),Co (d:=default) (f:=fun p=>AT m p)]
 exact⟨fun⟨⟨⟨⟨⟨⟨⟨⟨⟨h1,h2⟩,h3⟩,h4⟩,h5⟩,h6⟩,h7⟩,h8⟩,h9⟩,h10⟩=>⟨h1,h2,h3,⟨h4,h5⟩,⟨h6,h7⟩,h8,h9,h10⟩,
  fun h=>⟨⟨⟨⟨⟨⟨⟨⟨⟨h.g,h.cl⟩,h.pl⟩,h.l.1⟩,h.l.2⟩,h.a.1⟩,h.a.2⟩,h.c⟩,h.p⟩,h.k⟩⟩
structure FP (b:Int->Prop) (s t:D.State):Prop where
 last:t.Last=s.Last
 alone:t.Alone=s.Alone
 claim:t.Claim=s.Claim
 len:s.Procs.length<=t.Procs.length
 old:∀ i:Nat,i<s.Procs.length->(t.Procs.getD i default).Type_=(s.Procs.getD i default).Type_/\(t.Procs.getD i default).Loc=(s.Procs.getD i default).Loc/\(¬ b i->(t.Procs.getD i default).Frame=(s.Procs.getD i default).Frame)
theorem FP.refl {b:Int->Prop}{s:D.State}:FP b s s:=⟨rfl,rfl,rfl,Nat.le_refl _,fun _ _=>⟨rfl,rfl,fun _=>rfl⟩⟩
theorem FP.trans {b:Int->Prop}{s t u:D.State}(h:FP b s t)(k:FP b t u):FP b s u :=
 ⟨k.last.trans h.last,k.alone.trans h.alone,k.claim.trans h.claim,Nat.le_trans h.len k.len,fun i hi=>by
  obtain⟨a1,a2,a3⟩:=h.old i hi
  obtain⟨b1,b2,b3⟩:=k.old i (Nat.lt_of_lt_of_le hi h.len)
  grind⟩
theorem FP.less {b c:Int->Prop}{s t:D.State}(h:FP b s t)(hb:∀ i,b i->c i):FP c s t :=
 ⟨h.last,h.alone,h.claim,h.len,fun i hi=>⟨(h.old i hi).1,(h.old i hi).2.1,fun hn=>(h.old i hi).2.2 fun hbi=>hn (hb _ hbi)⟩⟩
theorem CZ {α:Type}{l:List α}{t j:Nat}{p d:α}:(l.set t p).getD j d=if t=j/\j<l.length then p else l.getD j d:=by grind
theorem LV {t:D.Type}{v:Int}(h:Eb t=true):Cx t (KB t v)=true:=by
 have h0:=h
 unfold Eb at h
 simp only[Bool.and_eq_true,decide_eq_true_eq]at h
 obtain⟨h1,h2,h3⟩:=h
 unfold Cx KB Ih
 rw[h0,if_pos ⟨h1,h2⟩,Bool.true_and]
 cases hs:t.Signed with
 | true =>
  rw[hs]at h3
  simp at h3
  rcases h3 with h3 | h3<;>rw[h3]<;>simp<;>omega
 | false =>
  have hp:(0:Int)<2 ^ t.Bits.toNat:=Int.pow_pos (by decide)
  simp_all [Int.emod_nonneg,Int.ne_of_gt,Int.emod_lt_of_pos]
theorem SX {t:D.Type}{v:Int}(h:Cx t v=true):Eb t=true:=by
 unfold Cx at h
 grind
theorem ZG {t:List D.Type}{l:List Int}{k:Nat}(h:Bi t l=true)(hk:k<l.length):Cx (t.getD k default) (l.getD k 0)=true:=by
 unfold Bi at h
 simp only[Bool.and_eq_true,decide_eq_true_eq]at h
 exact AK.1 h.2 k hk
theorem K8 {t:List D.Type}{l:List Int}(hl:t.length=l.length)(h:∀ k,k<l.length->Cx (t.getD k default) (l.getD k 0)=true):Bi t l=true:=by
 unfold Bi
 simp_all [AK]
theorem Qe {t:List D.Type}{l:List Int}(h:Bi t l=true)(k:Nat)(v:Int):Bi t (l.set k (KB (t.getD k default) v))=true:=by
 have hl:=D7 h
 refine K8 (by simp[hl]) fun i hi=>?_
 rw[List.length_set]at hi
 have hx:=ZG h hi
 grind [CZ,LV,SX]
section
variable {m : D.Model} {s:D.State}
theorem EF.setP (h:EF m s){l:List D.Process}(hl:l.length=s.Procs.length)(hp:∀ p∈l,AT m p=true):EF m { s with Procs:=l } :=
 ⟨h.g,h.cl,by show l.length<=16;rw[hl];exact h.pl,h.l,⟨h.a.1,by show s.Alone<(l.length:Int);rw[hl];exact h.a.2⟩,h.c,hp,h.k⟩
theorem EF.addP (h:EF m s){p:D.Process}(hl:s.Procs.length<16)(hp:AT m p=true):EF m { s with Procs:=s.Procs++[p] }:=by
 refine⟨h.g,h.cl,by grind,h.l,⟨h.a.1,?_⟩,h.c,fun q hq=>?_,h.k⟩
 ·have:=h.a.2
  grind
 ·rcases List.mem_append.1 hq with hq | hq
  ·exact h.p _ hq
  grind
theorem EF.setC (h:EF m s){k:Nat}{c:D.Chan}(hc:CQ m c=true):EF m { s with Chans:=s.Chans.set k c } :=
 ⟨h.g,by show(s.Chans.set k c).length<=32;rw[List.length_set];exact h.cl,h.pl,h.l,h.a,fun x hx=>(G8 hx).elim (h.c x) fun e=>by rw[e];exact hc,h.p,h.k⟩
theorem Xj {p:D.Process}{f:List Int}(h:AT m p=true)(hf:Bi (AN m p.Type_).Frame f=true):AT m { p with Frame:=f }=true:=by
 unfold AT at h ⊢
 grind
theorem AdX {p:D.Process}{to:Int}(h:AT m p=true)(ht:inP (AN m p.Type_).Locs.length to=true):AT m { p with Loc:=to }=true:=by
 unfold AT at h ⊢
 grind
theorem Aig {l:List D.Process}{i:Nat}(h:i<l.length):l.getD i default∈l:=An h
theorem EF.put (h:EF m s){who k v:Int}(hi:0<=who->who<s.Procs.length):EF m (IA m s who k v):=by
 unfold IA
 cases c:decide (who<0) with
 | true=>exact⟨Qe h.g _ _,h.cl,h.pl,h.l,h.a,h.c,h.p,h.k⟩
 | false =>
  have h0:0<=who:=by grind
  have hw:=hi h0
  refine h.setP (List.length_set ..) fun p hp=>?_
  rcases G8 hp with hp | rfl
  ·exact h.p _ hp
  ·have hq:=h.p _ (Aig (i:=who.toNat) (by omega))
   exact Xj hq (Qe (DI hq).2.2.2.1 _ _)
theorem AbK {who k v:Int}{b:Int->Prop}(hb:0<=who->b who):FP b s (IA m s who k v):=by
 unfold IA
 cases c:decide (who<0) with
 | true=>exact⟨rfl,rfl,rfl,Nat.le_refl _,fun _ _=>⟨rfl,rfl,fun _=>rfl⟩⟩
 | false =>
  have h0:0<=who:=by grind
  refine⟨rfl,rfl,rfl,by show s.Procs.length<=(s.Procs.set _ _).length;grind,fun i hi=>?_⟩
  show((s.Procs.set who.toNat (VJ m (s.Procs.getD who.toNat default) k v)).getD i default).Type_=_/\((s.Procs.set who.toNat (VJ m (s.Procs.getD who.toNat default) k v)).getD i default).Loc=_/\(_->((s.Procs.set who.toNat (VJ m (s.Procs.getD who.toNat default) k v)).getD i default).Frame=_)
  rw[CZ]
  split
  ·rename_i hk
   obtain⟨rfl,_⟩:=hk
   exact⟨rfl,rfl,(by grind)⟩
  grind
end
theorem Ac4 {e:D.Env}{ev:Evl}{x:D.Expr}(hs:x.V.Scope≠2)(h0:0<=x.V.Scope/\x.V.Scope<=2)(h:0<=(Bl e ev x).1)(h2:(Bl e ev x).2.2=0):(Bl e ev x).1=e.Pid:=by
 unfold Bl at h h2 ⊢
 cases c0:decide (x.Op≠2) with
 | true=>grind
 | false =>
 rw[c0,cond_false]at h h2
 rw[cond_false]
 cases c1:decide ((BT e ev x.V).2≠0) with
 | true=>grind
 | false =>
 rw[c1,cond_false]at h h2
 rw[cond_false]
 cases c2:decide ((Dn ev x.V.Slot x.V.Dims).2≠0) with
 | true=>grind
 | false =>
 rw[c2,cond_false]at h
 rw[cond_false]
 show(BT e ev x.V).1=e.Pid
 have h:0<=(BT e ev x.V).1:=h
 unfold BT at h c1 ⊢
 grind
theorem Qi {e:D.Env}{x v:Int}(hw:A2 e.M)(hs:(Ao e.M x).V.Scope≠2)(h:(BM e x v).2=0):EF e.M e.S/\EF e.M (BM e x v).1/\FP (fun i=>i=e.Pid) e.S (BM e x v).1:=by
 unfold BM at h ⊢
 cases c1:decide (B8 e x≠0) with
 | true=>grind
 | false =>
 rw[c1,cond_false]at h
 rw[cond_false]
 obtain⟨hE,h0,h1⟩:=XY (x:=x) hw (by simpa using c1)
 cases c2:decide ((Bl e (D0 e) (Ao e.M x)).2.2≠0) with
 | true=>grind
 | false =>
 rw[cond_false]
 have hz:(Bl e (D0 e) (Ao e.M x)).2.2=0:=by simpa using c2
 have hin:=Qo hE h0 h1 hz
 have hf:=Cw.1 hE.fits
 have hop:(Ao e.M x).Op=2:=by
  unfold Bl at hz
  grind
 exact⟨hf,hf.put fun hp=>(hin.own hp).1,AbK fun hp=>Ac4 hs (HL ((Afn hE h0 h1).var hop)).scope hp hz⟩
structure Nw (b:Int->Prop) (e f:D.Env) (er:Int):Prop where
 M:f.M=e.M
 pid:f.Pid=e.Pid
 keep:FP b e.S f.S
 more:f.S.Procs.length<=e.S.Procs.length+1
 fits:er=0->EF e.M f.S
section
variable {e : D.Env} {b:Int->Prop}
theorem Nw.none {er:Int}(h:EF e.M e.S):Nw b e e er:=⟨rfl,rfl,FP.refl,Nat.le_succ _,fun _=>h⟩
theorem Nw.bad {er:Int}(h:er≠0):Nw b e e er:=⟨rfl,rfl,FP.refl,Nat.le_succ _,fun h'=>absurd h' h⟩
theorem Gj {x v:Int}(hw:A2 e.M)(hs:(Ao e.M x).V.Scope≠2) :
  FP (fun i=>i=e.Pid) e.S (Be e x v).1.S/\(Be e x v).1.S.Procs.length=e.S.Procs.length/\(Be e x v).1.M=e.M/\(Be e x v).1.Pid=e.Pid/\((Be e x v).2=0->EF e.M (Be e x v).1.S):=by
 show FP _ e.S (stE e x v).S/\(stE e x v).S.Procs.length=e.S.Procs.length/\(stE e x v).M=e.M/\(stE e x v).Pid=e.Pid/\((BM e x v).2=0->EF e.M (stE e x v).S)
 have hl:=Tk e x v
 refine⟨?_,hl.procs,hl.M,hl.pid,fun h=>?_⟩
 ·unfold stE
  cases c:decide ((BM e x v).2=0) with
  | true=>exact(Qi hw hs (of_decide_eq_true c)).2.2
  | false=>exact FP.refl
 ·unfold stE
  grind [decide_eq_true,Qi]
theorem Mt (m mt:List Int):∀ (l:List Int) (k:Nat) (e:D.Env),A2 e.M->(∀ j,j<l.length->mt.getD (k+j) 0=0->(Ao e.M (l.getD j 0)).V.Scope≠2) ->
  FP (fun i=>i=e.Pid) e.S (Dw m mt k l e).1.S/\((Dw m mt k l e).2=0->EF e.M e.S->EF e.M (Dw m mt k l e).1.S)
 | [],k,e,hw,_=>⟨FP.refl,fun _ h=>h⟩
 | x::r,k,e,hw,ht=>by
  have hr:∀ j,j<r.length->mt.getD (k+1+j) 0=0->(Ao e.M (r.getD j 0)).V.Scope≠2:=fun j hj h=>by
   have:=ht (j+1) (Nat.succ_lt_succ hj) (by rw[show k+(j+1)=k+1+j by omega];exact h)
   simpa[List.getD] using this
  unfold Dw
  cases c1:decide (mt.getD k 0≠0) with
  | true=>exact Mt m mt r (k+1) e hw hr
  | false =>
   rw[cond_false]
   have h0:=ht 0 (Nat.succ_pos _) (by rw[Nat.add_zero];simpa using c1)
   obtain⟨k1,k2,k3,k4,k5⟩:=Gj (v:=m.getD k 0) hw (show(Ao e.M x).V.Scope≠2 from h0)
   have k3:(stE e x (m.getD k 0)).M=e.M:=k3
   have k4:(stE e x (m.getD k 0)).Pid=e.Pid:=k4
   cases c2:decide ((BM e x (m.getD k 0)).2≠0) with
   | true=>exact⟨FP.refl,fun h=>absurd h (of_decide_eq_true c2)⟩
   | false =>
    rw[cond_false]
    obtain⟨g1,g2⟩:=Mt m mt r (k+1) (stE e x (m.getD k 0)) (by rw[k3];exact hw) (by rw[k3];exact hr)
    rw[k4]at g1
    rw[k3]at g2
    exact⟨FP.trans k1 g1,fun h _=>g2 h (k5 (show(BM e x (m.getD k 0)).2=0 by simpa using c2))⟩
def Vi (m:D.Model)(s:D.Stmt):Prop:=∀ j,j<s.Args.length->s.Match.getD j 0=0->(Ao m (s.Args.getD j 0)).V.Scope≠2
theorem Kz {s:D.Stmt}{m:List Int}(hw:A2 e.M)(ht:Vi e.M s) :
  FP (fun i=>i=e.Pid) e.S (Ee e s m).1.S/\((Ee e s m).2=0->EF e.M e.S->EF e.M (Ee e s m).1.S)/\Nv e (Ee e s m).1:=by
 obtain⟨h1,h2⟩:=Mt m s.Match s.Args 0 e hw (fun j hj h=>ht j hj (by rwa [Nat.zero_add]at h))
 exact⟨h1,h2,G0 m s.Match s.Args 0 e⟩
theorem HN {m:D.Model}{a:Int}(h:BF m a=true):(Ao m a).V.Scope≠2:=by
 unfold BF at h
 grind
theorem C4.t2 {m:D.Model}{s:D.Stmt}(h:C4 m s)(hk:s.Kind=2):(Ao m s.A).V.Scope≠2:=by
 have:=h.st
 unfold Au at this
 simp_all [Bool.and_eq_true,HN]
theorem C4.t9 {m:D.Model}{s:D.Stmt}(h:C4 m s)(hk:s.Kind=9):(Ao m s.A).V.Scope≠2:=by
 have:=h.st
 unfold Au at this
 simp_all [Bool.and_eq_true,HN]
theorem C4.t6 {m:D.Model}{s:D.Stmt}(h:C4 m s)(hk:s.Kind=6):Vi m s:=by
 have h6:=h.k6 hk
 have:=h.st
 unfold Au at this
 rw[if_neg (by omega),if_neg (by omega),if_neg (by omega),if_neg (by omega),if_pos hk]at this
 simp only[Bool.and_eq_true]at this
 have:=this.1.1.1.2
 unfold Fd at this
 simp only[Bool.and_eq_true]at this
 intro j hj hm
 grind [AK,decide_eq_true,HN]
theorem AfM {m:D.Model}{typ:Int}{args:List Int}(hm:F2 m=true)(h0:0<=typ/\typ<m.Procs.length)(hc:typ≠m.Claim):AT m (Ft m typ args)=true:=by
 obtain⟨_,h2,_⟩:=CB hm
 obtain⟨f1,f2⟩:=EJ h2 typ.toNat (by omega)
 have f1:Eg (AN m typ)=true:=f1
 have f2:Ef (AN m typ)=true:=f2
 unfold Eg at f1
 unfold Ef at f2
 simp only[Bool.and_eq_true,decide_eq_true_eq]at f1 f2
 have hi:=f1.1.1.1.1.1.1.2
 have ht:∀ i,i<(AN m typ).Frame.length->Cx ((AN m typ).Frame.getD i default) ((AN m typ).Init.getD i 0)=true:=E5 (by have:=f1.1.1.1.1.1.1.1.2;unfold Ex at *;omega)
 unfold AT Cu Ft
 simp only[Bool.and_eq_true,decide_eq_true_eq]
 have hl:(KI (AN m typ).Frame args (AN m typ).Init args.length).length=(AN m typ).Init.length:=by simp[KI]
 refine⟨(by grind),K8 (by rw[hl];omega) fun k hk=>?_⟩
 rw[hl]at hk
 have hx:=ht k (by omega)
 have:(KI (AN m typ).Frame args (AN m typ).Init args.length).getD k 0=if k<args.length then KB ((AN m typ).Frame.getD k default) (args.getD k 0) else(AN m typ).Init.getD k 0:=by simp[KI,List.getD,hk]
 grind [LV,SX]
theorem Agk {m:D.Model}{typ:Int}{args:List Int}(h:(IV m typ args).2=0):AT m (IV m typ args).1=true:=by
 unfold IV at h ⊢
 cases c1:F2 m with
 | false=>grind
 | true =>
  rw[c1]at h
  rw[Bool.not_true,cond_false]at h ⊢
  grind [Bool.or_eq_false_iff,decide_eq_false_iff_not,AfM]
theorem UF {p:D.Process}:FP b e.S (FW e p).S:=by
 refine⟨rfl,rfl,rfl,by show _<=(e.S.Procs++[p]).length;simp,fun i hi=>?_⟩
 have:(e.S.Procs++[p]).getD i default=e.S.Procs.getD i default:=by grind
 show((e.S.Procs++[p]).getD i default).Type_=_/\((e.S.Procs++[p]).getD i default).Loc=_/\(_->((e.S.Procs++[p]).getD i default).Frame=_)
 grind
theorem No {x:Int}:((Bj e x).1=e/\(Bj e x).2.2≠0)∨(∃ p,(Bj e x).1=FW e p/\(Bj e x).2.2=0/\AT e.M p=true):=by
 unfold Bj
 cases c1:decide ((BI e (Ao e.M x).Args).2≠0) with
 | true=>grind
 | false =>
  rw[cond_false]
  cases c2:decide ((IV e.M (Ao e.M x).N (BI e (Ao e.M x).Args).1).2≠0) with
  | true=>grind
  | false=>grind [Agk]
theorem Ro {x:Int}(h:EF e.M e.S)(hr:e.S.Procs.length<16):Nw b e (Bj e x).1 (Bj e x).2.2:=by
 rcases No (e:=e) (x:=x) with⟨h1,h2⟩ | ⟨p,h1,h2,h3⟩
 ·rw[h1];exact .bad h2
 ·rw[h1]
  exact⟨rfl,rfl,UF,by show(e.S.Procs++[p]).length<=_;simp,fun _=>h.addP hr h3⟩
theorem Adc {s:D.Stmt}(hw:A2 e.M)(_:EF e.M e.S)(hs:(Ao e.M s.A).V.Scope≠2):Nw (fun i=>i=e.Pid) e (Ei e s).1 (Ei e s).2:=by
 unfold Ei
 cases c0:BJ e s.B with
 | true =>
  rw[cond_true]
  rcases No (e:=e) (x:=s.B) with⟨h1,h2⟩ | ⟨p,h1,h2,h3⟩
  ·rw[decide_eq_true h2,cond_true,h1];exact .bad h2
  ·rw[decide_eq_false (fun hn=>hn h2),cond_false,h1]
   obtain⟨k1,k2,k3,k4,k5⟩:=Gj (e:=FW e p) (x:=s.A) (v:=(Bj e s.B).2.1) hw hs
   exact⟨k3,k4,UF.trans k1,by rw[k2];show(e.S.Procs++[p]).length<=_;simp,k5⟩
 | false =>
  rw[cond_false]
  cases c1:decide ((Bh e s.B).2≠0) with
  | true=>exact .bad (of_decide_eq_true c1)
  | false =>
   obtain⟨k1,k2,k3,k4,k5⟩:=Gj (e:=e) (x:=s.A) (v:=(Bh e s.B).1) hw hs
   exact⟨k3,k4,k1,by rw[cond_false,k2];omega,k5⟩
theorem Pb {c:Int}{k:D.Chan}:FP b e.S (Hj e c k).S:=⟨rfl,rfl,rfl,Nat.le_refl _,fun _ _=>⟨rfl,rfl,fun _=>rfl⟩⟩
theorem Yx {m:D.Model}{k:D.Chan}{n:Int}(h:CQ m k=true)(h0:(Dy k n).2.2=0):CQ m (Dy k n).1=true:=by
 unfold Dy at h0 ⊢
 cases c:(decide (n<0)||decide ((k.Queue.length:Int)<=n)) with
 | true=>grind
 | false =>
  rw[cond_false]
  obtain⟨⟨a1,a2⟩,a3,a4⟩:=GG h
  have hsub:∀ x∈Ch.cutAt k.Queue n.toNat,x∈k.Queue:=fun x hx=>(List.mem_append.1 hx).elim List.mem_of_mem_take List.mem_of_mem_drop
  have hlen:(Ch.cutAt k.Queue n.toNat).length<=k.Queue.length:=by unfold Ch.cutAt;simp;omega
  unfold CQ
  simp only[Bool.and_eq_true,decide_eq_true_eq]
  exact⟨⟨B1.2 ⟨a1,a2⟩,by omega⟩,(Co (d:=[]) (f:=fun x=>Bi (BW m k.Shape).Fields x)).2 fun x hx=>a4 x (hsub x hx)⟩
theorem Aid {m:D.Model}{k:D.Chan}{l:List Int}{sorted:Bool}(h:CQ m k=true)(h0:(RX m k l sorted).2=0):CQ m (RX m k l sorted).1=true:=by
 have h0:Ch.putE (BW m k.Shape).Room (BW m k.Shape).Fields k.Queue l=0:=h0
 unfold RX Ch.putSh Ch.putQ
 rw[h0,if_pos rfl,if_pos rfl]
 obtain⟨⟨a1,a2⟩,a3,a4⟩:=GG h
 unfold Ch.putE at h0
 split at h0
 ·cases h0
 split at h0
 ·cases h0
 split at h0
 ·cases h0
 rename_i g1 g2 g3
 have g1:l.length=(BW m k.Shape).Fields.length:=Classical.not_not.1 g1
 have g2:(BW m k.Shape).Fields.all Ch.typeP=true:=by simpa using g2
 have hmem:∀ x∈Ch.putX (BW m k.Shape).Fields k.Queue l sorted,x∈k.Queue∨x=Ch.fitM (BW m k.Shape).Fields l:=fun x hx=>by
  rcases List.mem_append.1 hx with hx | hx
  ·grind
  grind
 have hlen:(Ch.putX (BW m k.Shape).Fields k.Queue l sorted).length<=k.Queue.length+1:=by unfold Ch.putX Ch.putAt;simp;omega
 have hfit:Bi (BW m k.Shape).Fields (Ch.fitM (BW m k.Shape).Fields l)=true:=by
  have hl:(Ch.fitM (BW m k.Shape).Fields l).length=l.length:=Ch.fitM_len g1
  refine K8 (by omega) fun j hj=>?_
  rw[hl]at hj
  have hj2:j<(BW m k.Shape).Fields.length:=by omega
  have e1:(Ch.fitM (BW m k.Shape).Fields l).getD j 0=KB ((BW m k.Shape).Fields.getD j default) (l.getD j 0):=by
   have hj3:j<(Ch.fitM (BW m k.Shape).Fields l).length:=by omega
   have e2:(Ch.fitM (BW m k.Shape).Fields l).getD j 0=(Ch.fitM (BW m k.Shape).Fields l)[j]:=by simp[List.getD,hj3]
   have e3:(BW m k.Shape).Fields.getD j default=(BW m k.Shape).Fields[j]:=by simp[List.getD,hj2]
   have e4:l.getD j 0=l[j]:=by simp[List.getD,hj]
   rw[e2,e3,e4]
   simp[Ch.fitM,KB]
  rw[e1]
  refine LV ?_
  have:=List.all_eq_true.1 g2 _ (An (d:=default) hj2)
  unfold Ch.typeP at this
  unfold Eb
  simp only[Bool.and_eq_true,Bool.or_eq_true]at this ⊢
  exact⟨this.1.1,this.1.2,this.2.elim (fun h=>h.elim .inl fun h=>.inr (.inl h)) fun h=>.inr (.inr h)⟩
 unfold CQ
 simp only[Bool.and_eq_true,decide_eq_true_eq]
 refine⟨⟨B1.2 ⟨a1,a2⟩,by omega⟩,(Co (d:=[]) (f:=fun x=>Bi (BW m k.Shape).Fields x)).2 fun x hx=>?_⟩
 grind
theorem Sv (hf:EF e.M e.S){n:Int}(h:Ny e n):CQ e.M (BP e n)=true:=hf.c _ (An (by have:=h.lo;have:=h.hi;omega))
theorem Afg {s:D.Stmt}(hw:A2 e.M)(h:(Bg e s).2.2=0):Ny e (Bg e s).1/\(Bo e (Bg e s).1).length=s.Args.length:=by
 unfold Bg at h ⊢
 cases d1:decide ((AC e s.A).2≠0) with
 | true=>grind
 | false =>
 rw[d1,cond_false]at h
 rw[cond_false]
 cases d2:decide ((Bo e (AC e s.A).1).length≠s.Args.length) with
 | true=>grind
 | false =>
 rw[d2,cond_false]at h
 rw[cond_false]
 cases d3:decide ((Cz e s).2≠0) with
 | true=>grind
 | false=>grind [FL]
theorem Aas {s:D.Stmt}(hw:A2 e.M)(h:EF e.M e.S)(ht:Vi e.M s):Nw (fun i=>i=e.Pid) e (D5 e s).1 (D5 e s).2:=by
 unfold D5
 cases c1:decide ((Bg e s).2.2≠0) with
 | true=>exact .bad (of_decide_eq_true c1)
 | false =>
 rw[cond_false]
 cases c2:decide ((Dy (BP e (Bg e s).1) (Bg e s).2.1).2.2≠0) with
 | true=>exact .bad (of_decide_eq_true c2)
 | false =>
 rw[cond_false]
 have hin:=(Afg hw (show(Bg e s).2.2=0 by simpa using c1)).1
 have hk:=Yx (Sv h hin) (by simpa using c2)
 generalize Dy (BP e (Bg e s).1) (Bg e s).2.1=t at hk
 cases decide (s.N<2) with
 | true =>
  rw[cond_true]
  obtain⟨g1,g2,g3⟩:=Kz (e:=Hj e (Bg e s).1 t.1) (s:=s) (m:=t.2.1) hw ht
  exact⟨g3.M,g3.pid,Pb.trans g1,by rw[g3.procs];exact Nat.le_succ _,fun h0=>g2 h0 (h.setC hk)⟩
 | false =>
  rw[cond_false]
  obtain⟨g1,g2,g3⟩:=Kz (e:=e) (s:=s) (m:=t.2.1) hw ht
  exact⟨g3.M,g3.pid,g1,by rw[g3.procs];exact Nat.le_succ _,fun h0=>g2 h0 h⟩
theorem O6 {s:D.Stmt}(hw:A2 e.M)(h:(Ax e s).2.2=0):Ny e (Ax e s).1/\Bi (Bo e (Ax e s).1) (Ax e s).2.1=true:=by
 unfold Ax at h ⊢
 cases d1:decide ((AC e s.A).2≠0) with
 | true=>grind
 | false =>
 rw[d1,cond_false]at h
 rw[cond_false]
 cases d2:decide ((Bo e (AC e s.A).1).length≠s.Args.length) with
 | true=>grind
 | false =>
 rw[d2,cond_false]at h
 rw[cond_false]
 cases d3:decide ((BI e s.Args).2≠0) with
 | true=>grind
 | false =>
  have hin:=FL hw (show(AC e s.A).2=0 by simpa using d1)
  refine⟨hin,?_⟩
  show Bi (Bo e (AC e s.A).1) (Hy (Bo e (AC e s.A).1) (BI e s.Args).1)=true
  have hsh:=hin.sh
  have ht:=hin.ok.tab.shape (BP e (AC e s.A).1).Shape.toNat (by omega)
  have hl:=L1 (show(BI e s.Args).2=0 by simpa using d3)
  have hf:(Bo e (AC e s.A).1).length=s.Args.length:=by simpa using d2
  unfold CF at ht
  simp only[Bool.and_eq_true,decide_eq_true_eq]at ht
  have ht:=AK.1 ht.2
  change ∀ i,i<(Bo e (AC e s.A).1).length->Eb ((Bo e (AC e s.A).1).getD i default)=true at ht
  have hL:(Hy (Bo e (AC e s.A).1) (BI e s.Args).1).length=(BI e s.Args).1.length:=by simp[Hy]
  refine K8 (by omega) fun k hk=>?_
  rw[hL]at hk
  have:(Hy (Bo e (AC e s.A).1) (BI e s.Args).1).getD k 0=KB ((Bo e (AC e s.A).1).getD k default) ((BI e s.Args).1.getD k 0):=by simp[Hy,List.getD,hk]
  grind [LV]
theorem Adh {s:D.Stmt}{w:Wy}(hw:A2 e.M)(h:EF e.M e.S)(ht:0<=w.With->Vi e.M (DZ e w).S):Nw (fun i=>i=e.Pid∨i=w.With) e (ER e s w).1 (ER e s w).2:=by
 unfold ER
 cases c1:decide ((Ax e s).2.2≠0) with
 | true=>exact .bad (of_decide_eq_true c1)
 | false =>
 rw[cond_false]
 cases c2:decide (0<=w.With) with
 | true =>
  rw[cond_true]
  obtain⟨g1,g2,g3⟩:=Kz (e:=Bq e w.With) (s:=(DZ e w).S) (m:=(Ax e s).2.1) hw (ht (of_decide_eq_true c2))
  exact⟨rfl,rfl,g1.less fun i hi=>.inr hi,by show(Ee (Bq e w.With) _ _).1.S.Procs.length<=_;rw[g3.procs];exact Nat.le_succ _,fun h0=>g2 h0 h⟩
 | false =>
  rw[cond_false]
  have hin:=(O6 hw (show(Ax e s).2.2=0 by simpa using c1)).1
  exact⟨rfl,rfl,Pb,Nat.le_succ _,fun h0=>h.setC (Aid (Sv h hin) h0)⟩
theorem UW {pr:ByteArray->List Int->ByteArray}{s:D.Stmt}{w:Wy}(hw:A2 e.M)(h:EF e.M e.S)(hs:C4 e.M s)(hr:s.Kind=1->BJ e s.A=true->e.S.Procs.length<16)(ht:0<=w.With->Vi e.M (DZ e w).S) :
  Nw (fun i=>i=e.Pid∨i=w.With) e (Bn pr e s w).1 (Bn pr e s w).2.2:=by
 have up:∀ {f:D.Env} {er:Int},Nw (fun i=>i=e.Pid) e f er->Nw (fun i=>i=e.Pid∨i=w.With) e f er:=fun g=>⟨g.M,g.pid,g.keep.less fun i hi=>.inl hi,g.more,g.fits⟩
 unfold Bn
 split
 ·rename_i hk
  cases c:BJ e s.A with
  | true=>exact Ro h (hr hk c)
  | false=>exact .none h
 split
 ·rename_i hk;exact up (Adc hw h (hs.t2 hk))
 split
 ·exact .none h
 split
 ·exact .none h
 split
 ·rename_i hk
  obtain⟨k1,k2,k3,k4,k5⟩:=Gj (e:=EK e s.N) (x:=s.A) (v:=(e.S.Chans.length+1:Nat)) hw (hs.t9 hk)
  have k0:FP (fun i=>i=e.Pid) e.S (EK e s.N).S:=⟨rfl,rfl,rfl,Nat.le_refl _,fun _ _=>⟨rfl,rfl,fun _=>rfl⟩⟩
  exact up ⟨k3,k4,FP.trans k0 k1,by show(Be (EK e s.N) s.A _).1.S.Procs.length<=_;rw[k2];exact Nat.le_succ _,k5⟩
 split
 ·exact Adh hw h ht
 split
 ·rename_i hk;exact up (Aas hw h (hs.t6 hk))
 exact .none h
end
def Ajg (f:FuncId):Shp:=   Ajj f
section
variable {e : D.Env} {w:Wy}
theorem IF {i:Int}:∀ {l:List Ab} {k:Nat},w∈DC i k l->∃ (j:Nat) (x:Ab),l[j]?=some x/\w∈Fa i (k+j) x
 | [],_,h=>by cases h
 | x::r,k,h=>by
  rcases List.mem_append.1 (show w∈Fa i k x++DC i (k+1) r from h) with h | h
  ·exact⟨0,x,rfl,h⟩
  ·obtain⟨j,y,a,b⟩:=IF h
   exact⟨j+1,y,a,by rw[show k+(j+1)=k+1+j by omega];exact b⟩
theorem L5 {i:Int}{k:Nat}{x:Ab}(h:w∈Fa i k x):w.Way=k/\w.Esc=i/\(x.is=true∨∃ p∈x.wth,w.With=p.pid):=by
 rcases List.mem_append.1 h with h | h
 ·grind
 ·obtain⟨p,hp,rfl⟩:=List.mem_map.1 h
  exact⟨rfl,rfl,.inr ⟨p,hp,rfl⟩⟩
theorem QP : ∀ {l:List (Int × List D.Trans)},w∈EI e l->0<=w.Way
 | [],h=>by cases h
 | (i,ws)::r,h=>by
  have hq:EI e ((i,ws)::r)=bif decide (0<(DC i 0 (Dj e (Bm e) ws false)).length) then DC i 0 (Dj e (Bm e) ws false) else EI e r:=rfl
  rw[hq]at h
  cases c:decide (0<(DC i 0 (Dj e (Bm e) ws false)).length) with
  | true =>
   rw[c]at h
   obtain⟨j,x,_,h2⟩:=IF h
   have:=(L5 h2).1
   omega
  | false=>rw[c]at h;exact QP h
theorem Pm (h:w∈AF e)(hw:w.Way<0)(he:w.Err=0):e.Pid=(e.S.Procs.length:Int) - 1:=by
 unfold AF at h
 cases c1:decide ((Ci e e.Pid).Loc=(BQ e).Final) with
 | true =>
  grind
 | false =>
  rw[c1,cond_false]at h
  cases c2:decide ((A6 e).2≠0) with
  | true =>
   rw[c2,cond_true]at h
   obtain rfl:=List.mem_singleton.1 h
   exact absurd he (of_decide_eq_true c2)
  | false =>
   rw[c2,cond_false]at h
   cases c3:(!(A6 e).1) with
   | true=>rw[c3]at h;cases h
   | false =>
    rw[c3,cond_false]at h
    have:=QP h
    omega
theorem Tt (h:w∈AF e)(h0:0<=w.Way)(hk:(BG e w).S.Kind=1)(hr:BJ e (BG e w).S.A=true):e.S.Procs.length<16:=by
 rcases FH (e:=e) with h' | ⟨er,h'⟩ | ⟨i,ws,hi,h'⟩
 ·rw[h']at h;cases h
 ·rw[h']at h
  obtain rfl:=List.mem_singleton.1 h
  exact absurd (show(0:Int)<=-1 from h0) (by decide)
 ·rw[h']at h
  obtain⟨hl,_⟩:=Fo hi
  obtain⟨j,x,a1,a2⟩:=IF h
  rw[Nat.zero_add]at a2
  obtain⟨b1,rfl⟩:=KF a1
  obtain⟨c1,c2,c3⟩:=L5 a2
  have ht:ws.getD j default=BG e w:=by
   unfold BG
   rw[c2,hl,c1]<;>rfl
  have hcan:C1 e (Bm e) ws false j=BA e (Bm e) (BG e w).S false:=by
   unfold C1
   grind
  have hst:BA e (Bm e) (BG e w).S false=IX e:=by
   unfold BA
   rw[if_pos hk,hr]<;>rfl
  rw[hcan,hst]at c3
  rcases c3 with c3 | ⟨p,hp,_⟩
  ·exact of_decide_eq_true c3
  ·cases hp
theorem CJ {l:List D.Process}{k to:Int}:(CK l k to).length=l.length:=List.length_set ..
theorem IM {l:List D.Process}{k to:Int}{j:Nat}(h:(j:Int)≠k)(hk:0<=k):(CK l k to).getD j default=l.getD j default:=by
 unfold CK
 grind
theorem Oh {m:D.Model}{l:List D.Process}{k to:Int}(h:∀ p∈l,AT m p=true)(h0:0<=k)(hk:k<l.length)(ht:inP (AN m (l.getD k.toNat default).Type_).Locs.length to=true):∀ p∈CK l k to,AT m p=true:=fun p hp=>by
 rcases G8 hp with hp | rfl
 ·exact h p hp
 grind [AdX,An]
structure Whole (e:D.Env) (w:Wy) (s:D.State):Prop where
 fits:EF e.M s
 last:s.Last=e.Pid
 claim:s.Claim=e.S.Claim
 n1:(e.S.Procs.length:Int) - 1<=s.Procs.length
 n2:s.Procs.length<=e.S.Procs.length+1
 old:∀ k:Nat,k<s.Procs.length->k<e.S.Procs.length->(k:Int)≠e.Pid->(k:Int)≠w.With->(s.Procs.getD k default).Frame=(e.S.Procs.getD k default).Frame/\(s.Procs.getD k default).Loc=(e.S.Procs.getD k default).Loc /\
  (s.Procs.getD k default).Type_=(e.S.Procs.getD k default).Type_
theorem Qg {l:List D.Process}{n k:Nat}(h:k<n):(l.take n).getD k default=l.getD k default:=by simp[List.getD,h]
theorem Ab1 (h:B5 e)(hp:e.Pid=(e.S.Procs.length:Int) - 1):Whole e w (Aiq e):=by
 have hf:=Cw.1 h.ok.fits
 have h0:=h.p0
 have hpl:=hf.pl
 have hl:(e.S.Procs.take e.Pid.toNat).length=e.Pid.toNat:=by simp;omega
 have ha:=hf.a
 refine⟨⟨hf.g,hf.cl,by show(List.take _ _).length<=16;omega,⟨h0,by show e.Pid<16;omega⟩,?_,hf.c,fun p hp=>hf.p _ (List.mem_of_mem_take hp),hf.k⟩,rfl,rfl,by show _<=((List.take _ _).length:Int);omega,by show(List.take _ _).length<=_;omega,fun k hk _ _ _=>?_⟩
 ·show -1<=(bif decide (e.Pid<=e.S.Alone) then -1 else e.S.Alone)/\(bif decide (e.Pid<=e.S.Alone) then -1 else e.S.Alone)<((List.take e.Pid.toNat e.S.Procs).length:Int)
  grind
 ·have hk:k<(e.S.Procs.take e.Pid.toNat).length:=hk
  show((e.S.Procs.take e.Pid.toNat).getD k default).Frame=_/\((e.S.Procs.take e.Pid.toNat).getD k default).Loc=_/\((e.S.Procs.take e.Pid.toNat).getD k default).Type_=_
  grind
structure Aix (e:D.Env) (w:Wy):Prop where
 st:C4 e.M (BG e w).S
 to:inP (AN e.M (Ci e e.Pid).Type_).Locs.length (BG e w).To=true
 v:0<=w.With->w.With≠e.Pid/\w.With<e.S.Procs.length/\C4 e.M (DZ e w).S/\(DZ e w).S.Kind=6/\inP (AN e.M (Ci e w.With).Type_).Locs.length (DZ e w).To=true
theorem XN {pr:ByteArray->List Int->ByteArray}(h:B5 e)(hin:w∈AF e)(h0:0<=w.Way)(g:Aix e w)(hz:(Bn pr e (BG e w).S w).2.2=0):Whole e w (G1 e w (Bn pr e (BG e w).S w).1.S):=by
 have hf:=Cw.1 h.ok.fits
 have hp0:=h.p0
 have hpid:=h.ok.pid
 have d:=UW (pr:=pr) h.ok.wf hf g.st (fun hk hr=>Tt hin h0 hk hr) (fun hv=>(g.v hv).2.2.1.t6 (g.v hv).2.2.2.1)
 generalize Bn pr e (BG e w).S w=y at hz d ⊢
 have ff:=d.fits hz
 have hlen:=d.keep.len
 have hmore:=d.more
 have hty:∀ i:Nat,i<e.S.Procs.length->(y.1.S.Procs.getD i default).Type_=(e.S.Procs.getD i default).Type_:=fun i hi=>(d.keep.old i hi).1
 unfold G1
 have key:∀ l:List D.Process,l.length=y.1.S.Procs.length->(∀ p∈l,AT e.M p=true)->(l.getD e.Pid.toNat default).Type_=(Ci e e.Pid).Type_ ->
   (∀ k:Nat,(k:Int)≠e.Pid->(k:Int)≠w.With->l.getD k default=y.1.S.Procs.getD k default)->Whole e w { y.1.S with Procs:=CK l e.Pid (BG e w).To,Last:=e.Pid }:=by
  intro l hl hp ht ho
  have hll:(CK l e.Pid (BG e w).To).length=y.1.S.Procs.length:=by rw[CJ,hl]
  refine⟨⟨ff.g,ff.cl,by show(CK _ _ _).length<=16;rw[hll];exact ff.pl,⟨hp0,by show e.Pid<16;have:=hf.pl;omega⟩,⟨ff.a.1,by show y.1.S.Alone<((CK _ _ _).length:Int);rw[hll];exact ff.a.2⟩,ff.c,Oh hp hp0 (by omega) (by rw[ht];exact g.to),ff.k⟩,
   rfl,d.keep.claim,by grind,by grind,fun k hk he n1 n2=>?_⟩
  show((CK l e.Pid (BG e w).To).getD k default).Frame=_/\((CK l e.Pid (BG e w).To).getD k default).Loc=_/\((CK l e.Pid (BG e w).To).getD k default).Type_=_
  rw[IM n1 hp0,ho k n1 n2]
  obtain⟨a1,a2,a3⟩:=d.keep.old k he
  grind
 cases c:decide (0<=w.With) with
 | false=>exact key _ rfl ff.p (hty e.Pid.toNat (by omega)) fun _ _ _=>rfl
 | true =>
  have hv:=of_decide_eq_true c
  obtain⟨v1,v2,_,_,v5⟩:=g.v hv
  rw[cond_true]
  refine key _ CJ (Oh ff.p hv (by omega) ?_) ?_ fun k n1 n2=>IM n2 hv
  ·rw[hty w.With.toNat (by omega)];exact v5
  ·rw[IM (by omega) hv];exact hty e.Pid.toNat (by omega)
theorem Afd {pr:ByteArray->List Int->ByteArray}(h:B5 e)(hin:w∈AF e)(g:0<=w.Way->Aix e w)(hz:(goE pr e w).2.2=0):Whole e w (goE pr e w).1:=by
 unfold goE at hz ⊢
 cases c1:decide (w.Err≠0) with
 | true=>grind
 | false =>
 rw[c1,cond_false]at hz
 rw[cond_false]
 cases c2:decide (w.Way<0) with
 | true=>exact Ab1 h (Pm hin (of_decide_eq_true c2) (by simpa using c1))
 | false =>
 rw[c2,cond_false]at hz
 rw[cond_false]
 have h0:0<=w.Way:=by grind
 cases c3:decide ((Bn pr e (BG e w).S w).2.2≠0) with
 | true=>grind
 | false=>grind [XN]
end
end Go.Proofs.YtlhajmkjfcbhnaaGreat
namespace Go.Proofs.YtlhajmkjfcbhnaaGreat
end Go.Proofs.YtlhajmkjfcbhnaaGreat
namespace Go.Proofs.YtlhajmkjfcbhnaaGreat
open Go.RowKit
abbrev By:=List UInt8
def I64 (n:Int):Prop:=-9223372036854775808<=n/\n<=9223372036854775807
def bs (s:ByteArray):By:=s.data.toList
def mk (l:By):ByteArray:=⟨l.toArray⟩
theorem Pw (l:By):bs (mk l)=l:=by simp[bs,mk]
theorem NR (s:ByteArray):s.size=(bs s).length:=rfl
theorem B7 (l:By):(mk l).size=l.length:=by simp[ByteArray.size,mk]
def J8 (n:Int):ByteArray:=mk (Lib.itoa n)
def Sp (d:Nat):UInt8:=if d<10 then UInt8.ofNat (48+d) else UInt8.ofNat (87+d)
def Np (b:Nat):Nat->Nat->By
 | 0,_=>[]
 | g+1,u=>if u<b then[Sp u] else Np b g (u / b)++[Sp (u % b)]
def LY (b u:Nat):By:=Np b 64 u
def Nt (n:Int):Nat:=(n % 4294967296).toNat
def CO (c:UInt8)(n:Int):By :=
 if c=117 then LY 10 (Nt n) else if c=120 then LY 16 (Nt n) else if c=111 then LY 8 (Nt n) else if c=99 then[UInt8.ofNat (n % 256).toNat] else Lib.itoa n
def GA (c:UInt8):Bool:=c==100||(c==105||(c==101||(c==117||(c==120||(c==111||c==99)))))
def B6 : By->List Int->By
 | [],_=>[]
 | [c],_=>[c]
 | c::d::r,l =>
  bif !(c==37) then c::B6 (d::r) l
  else bif d==37 then 37::B6 r l
  else bif GA d then(match l with | []=>B6 r [] | n::l=>CO d n++B6 r l)
  else 37::d::B6 r l
def Ct (t:ByteArray)(l:List Int):ByteArray:=mk (B6 (bs t) l)
structure Mv where
 Pid:Int
 Esc:Int
 Way:Int
 With:Int
 WithEsc:Int
 WithWay:Int
 Claim:Int
deriving DecidableEq
instance : Inhabited Mv:=⟨⟨0,0,0,0,0,0,0⟩⟩
structure Nx where
 Move:Mv
 State:D.State
 Err:Int
 Text:ByteArray
instance : Inhabited Nx:=⟨⟨default,⟨[],[],[],0,0,0⟩,0,⟨#[]⟩⟩⟩
def noT : ByteArray:=⟨#[]⟩
def goP (e:D.Env)(w:Wy):D.State × ByteArray × Int:=goE Ct e w
abbrev Gn : Type:=D.Env × List Wy
def EB (e:D.Env)(i:Nat):List Gn:=bif decide (0<(FT (Bq e i)).1.length) then[(Bq e i,(FT (Bq e i)).1)] else[]
def BV (e:D.Env):Nat->List Gn
 | 0=>[]
 | n+1=>BV e n++EB e n
def DX (e:D.Env)(g:Gn):Int:=(Ci e g.1.Pid).Prio
def Cf (e:D.Env):Int->List Gn->Option Gn × Int
 | most,[]=>(none,most)
 | most,g::r=>bif decide (g.1.Pid=e.S.Alone) then(some g,most) else Cf e (max most (DX e g)) r
def CC (e:D.Env):List Gn :=
 match Cf e 0 (BV e e.S.Procs.length) with
 | (some g,_)=>[g]
 | (none,most)=>(BV e e.S.Procs.length).filter fun g=>decide (DX e g=most)
def DP (m:D.Model)(s:D.State):List Bool:=bif decide (B3 m s=0) then Cp m s s.Procs.length else[]
def FS (m:D.Model)(s:D.State):List Gn :=
 bif decide (0<(CC ⟨m,s,0,false,DP m s⟩).length) then CC ⟨m,s,0,false,DP m s⟩ else CC ⟨m,s,0,true,DP m s⟩
def CA : List Gn->List (D.Env × Wy)
 | []=>[]
 | g::r=>g.2.map (fun w=>(g.1,w))++CA r
def GC (m:D.Model)(s:D.State):List (D.Env × Wy):=CA (FS m s)
def Cj (m:D.Model)(s:D.State)(pid:Int):D.Loc × Bool :=
 bif decide (pid<0)||decide ((s.Procs.length:Int)<=pid) then(default,false) else((EA m (s.Procs.getD pid.toNat default).Type_).getD (s.Procs.getD pid.toNat default).Loc.toNat default,true)
def onS (m:D.Model)(pid:Int):Nat->D.State->ByteArray->D.State × ByteArray × Int
 | k,s,t=>bif !(Cj m s pid).2||!(Cj m s pid).1.Dstep then(s,t,0) else
  match k with
  | 0=>(D2,noT,53)
  | k+1 =>
   match(FT ⟨m,s,pid,false,[]⟩).1.find? fun w=>decide (w.With<0) with
   | none=>(D2,noT,53)
   | some w=>bif decide ((goP ⟨m,s,pid,false,[]⟩ w).2.2≠0) then(D2,noT,(goP ⟨m,s,pid,false,[]⟩ w).2.2)
    else onS m pid k (goP ⟨m,s,pid,false,[]⟩ w).1 (t++(goP ⟨m,s,pid,false,[]⟩ w).2.1)
def E8 (m:D.Model)(s:D.State)(pid:Int):D.State:=bif (Cj m s pid).2&&(Cj m s pid).1.Atomic then{ s with Alone:=pid } else s
def Dv (e:D.Env)(w:Wy):Mv:=⟨e.Pid,w.Esc,w.Way,w.With,w.WithEsc,w.WithWay,-1⟩
def Dl (e:D.Env)(w:Wy):Nx :=
 bif decide ((goP e w).2.2≠0) then⟨Dv e w,D2,(goP e w).2.2,noT⟩
 else bif decide ((onS e.M e.Pid 200 (goP e w).1 noT).2.2≠0) then⟨Dv e w,D2,(onS e.M e.Pid 200 (goP e w).1 noT).2.2,noT⟩
 else⟨Dv e w,E8 e.M (E8 e.M { (onS e.M e.Pid 200 (goP e w).1 noT).1 with Alone:=-1 } e.Pid) w.With,0,(goP e w).2.1++(onS e.M e.Pid 200 (goP e w).1 noT).2.1⟩
def Ec (m:D.Model)(s:D.State):List Nx × Int:=bif decide (B3 m s≠0) then([],B3 m s) else((GC m s).map fun p=>Dl p.1 p.2,0)
def CI (x:Nx):List VV:=[Aa x.Move.Pid,Aa x.Move.Esc,Aa x.Move.Way,Aa x.Move.With,Aa x.Move.WithEsc,Aa x.Move.WithWay,Aa x.Move.Claim,
 Ad true x.State.Globals,AV true x.State.Chans,Ay true x.State.Procs,Aa x.State.Last,Aa x.State.Alone,Aa x.State.Claim,Aa x.Err,AS x.Text]
def BC (fz:Bool)(l:List Nx):VV:=.sl fz l.length 15 fun i=>CI (l.getD i default)
def HY (l:List Nx):Nat->List VV:=fun i=>CI (l.getD i default)
instance : Inhabited Gn:=⟨(default,[])⟩
abbrev Wc : Type:=Bool × Int
def Sn (w:Wc):List VV:=[Ac w.1,Aa w.2]
end Go.Proofs.YtlhajmkjfcbhnaaGreat
namespace Go.Proofs.YtlhajmkjfcbhnaaGreat
end Go.Proofs.YtlhajmkjfcbhnaaGreat
namespace Go.Proofs.YtlhajmkjfcbhnaaGreat
open Go.RowKit
def Ajh (f:FuncId):Shp :=
                Ajg f
def Ajb : Ob:=.box [.nl,.nl,.nl,Aa 0,Aa 0,Aa 0]
def AiH (m:D.Model)(s:D.State)(pid:Int)(t:ByteArray)(n:Int):St:=Av [(2,Aa pid),(3,.bp 0 0),(4,.bp 1 0),(6,.bp 2 0),(9,AS t),(10,Aa n)] [.box (Af m),.box (Ae s),Ajb]
def AhR : Shp:={ α:=D.Env,enc:=fun y=>([],.agg (Ah y)) }
def AiP : Shp:={ α:=List Bool,enc:=fun y=>([],AR true y) }
def A9 (f:FuncId):Shp :=
 bif Nat.beq f 157||Nat.beq f 153||Nat.beq f 83||Nat.beq f 164||Nat.beq f 165||Nat.beq f 15 then ZV else bif Nat.beq f 129||Nat.beq f 148||Nat.beq f 149||Nat.beq f 151||Nat.beq f 116||Nat.beq f 110||Nat.beq f 136||Nat.beq f 6 then ZU else bif Nat.beq f 112||Nat.beq f 107||Nat.beq f 150||Nat.beq f 109||Nat.beq f 111||Nat.beq f 108||Nat.beq f 67||Nat.beq f 114 then Ac7 else bif Nat.beq f 106 then VF else bif Nat.beq f 115||Nat.beq f 86||Nat.beq f 125 then Aht else bif Nat.beq f 41 then Aga else bif Nat.beq f 40 then AiQ else bif Nat.beq f 163||Nat.beq f 152 then AiL else bif Nat.beq f 113||Nat.beq f 68 then AiR else bif Nat.beq f 42 then AhU else bif Nat.beq f 39 then AiI else bif Nat.beq f 54 then AhR else bif Nat.beq f 18 then AhN else bif Nat.beq f 16 then AiP else bif Nat.beq f 43 then Ac5 else bif Nat.beq f 38 then Tp else   Ajh f
def AQ (x:D.State)(g c p:VV):List VV:=[g,c,p,Aa x.Last,Aa x.Alone,Aa x.Claim]
def obG (s:D.State):Ob:=.arr true 0 s.Globals.length 1 (AJ s.Globals)
def Ac9 : Shp:={ α:=D.State,enc:=fun y=>([obG y,obC y,obP y],.agg (AQ y (.ow 0 0 y.Globals.length) (.ow 1 0 y.Chans.length) (.ow 2 0 y.Procs.length))) }
def AiM : Shp:={ α:=D.Process,enc:=fun y=>([],.agg (AB y)) }
def AiO : Shp:={ α:=D.Chan × Int,enc:=fun y=>([],.tup [.agg (Aw y.1),Aa y.2]) }
def AhS : Shp:={ α:=D.Chan × List Int × Int,enc:=fun y=>([],.tup [.agg (Aw y.1),Ad true y.2.1,Aa y.2.2]) }
def Ac6 : Shp:={ α:=D.State × Int,enc:=fun y=>([],.tup [.agg (Ae y.1),Aa y.2]) }
def AhQ : Shp:={ α:=D.Loc × Bool,enc:=fun y=>([],.tup [.agg (Bf y.1),Ac y.2]) }
def AhP : Shp:={ α:=Nx,enc:=fun y=>([],.agg (CI y)) }
def AhO : Shp:={ α:=List Nx,enc:=fun y=>([],BC true y) }
def B2 (f:FuncId):Shp :=
 bif Nat.beq f 52 then Ac9
 else bif Nat.beq f 123 then AiM
 else bif Nat.beq f 25||Nat.beq f 26||Nat.beq f 11||Nat.beq f 156||Nat.beq f 105 then ZV
 else bif Nat.beq f 127 then AiO
 else bif Nat.beq f 128 then AhS
 else bif Nat.beq f 90||Nat.beq f 126||Nat.beq f 84||Nat.beq f 85||Nat.beq f 88||Nat.beq f 89 then Ac6
 else bif Nat.beq f 53||Nat.beq f 24||Nat.beq f 44 then AiN
 else bif Nat.beq f 87 then AiK
 else bif Nat.beq f 17 then Aga
 else bif Nat.beq f 45 then AhQ
 else bif Nat.beq f 19 then AhP
 else bif Nat.beq f 7 then AhO
 else A9 f
def FD (g:FuncId)(c:List VV):Nat->List VV
 | 0=>[.dead]
 | k+1=>[.fn (.func g) [.tp c,.tp (FD g c k)]]
def Ai7 (H:Nat->List VV):VV->VV
 | .bp id 0=>.tp (H id)
 | x=>x
section
variable {w : World} {E:A0} {φ:Phi} {hs:List Ob}
theorem XE {c:List VV}{b:Nat}{vs:Array Value}{ty:TypeId}(hc:w.heap[b]?=some (.cells vs ty (0,0)))(hb:¬ E.br b)(hl:c.length<=vs.size)(h:∀ j x,c[j]?=some x->V w E none x (vs.getD j undef)){m:Option Phi}:V w E m (.tp c) (.pointer (some ⟨b,0,none⟩)) :=
 .tp (fun j=>vs.getD j undef) ((Array.getElem?_eq_some_iff.1 hc).1) hb (fun j x hx=>by
  have:=(List.getElem?_eq_some_iff.1 hx).1
  rw[Nat.zero_add]
  exact FA hc (by omega)) h
theorem Aq.lay {c:Ctx}{rel:List Nat}{l:List (Nat × VV)}{g:FuncId}{i j:Nat}{ci:List VV}(n:Nat)(hb:c.L.base=0)(hi:hs[i]?=some (.box ci))(hci:ci.all VV.mem=true)(hj:hs[j]?=some (.box [.fn (.func g) [.bp i 0,.bp j 0]]))
  (hm:∀ k o,hs[k]?=some o->k=j∨∃ cs,o=.box cs/\cs.all VV.mem=true) (hl:∀ p∈l,p.2.mem=true∨∃ k,p.2=.bp k 0/\k<hs.length)
  (h:Aq c rel (Av (l.map fun p=>(p.1,Ai7 (fun k=>bif Nat.beq k j then FD g ci n else match hs[k]? with
   | some (.box cs)=>cs
   | _=>[]) p.2)) [])):Aq c rel (Av l hs):=by
 refine⟨fun E _ a w hr=>?_⟩
 rename_i φ
 have hfr:∀ k,Own φ k->¬ E.br k:=fun k hk hn=>hr.hp.free k hk (hr.hp.sub k hn)
 have hbox:∀ k o,hs[k]?=some o->∃ p,φ k=some p/\ObV w E φ o p:=fun k o ho=>by
  have hk:k<hs.length:=(List.getElem?_eq_some_iff.1 ho).1
  obtain⟨p,hp⟩:=Option.ne_none_iff_exists'.1 (hr.lv k hk)
  have:=hr.hp.ob k p hp
  have e:(Av l hs).H k=o:=by simp[Av,CG,ho]
  rw[e]at this
  exact⟨p,hp,this⟩
 have hE:∀ {x:VV} {v:Value},x.mem=true->V w (E.up φ) (some φ) x v->V w (E.up fun _=>none) none x v:=fun hx hv =>
  (hv.mem (E':=(E.up φ)) (m':=none) hx rfl).less (fun k hk=>hk.imp (fun h=>h) fun⟨id,h⟩=>by rcases h with h | ⟨_,_,_,h⟩<;>cases h) fun k hk=>hk.imp (fun h=>h) fun⟨id,h⟩=>by rcases h with h | ⟨_,_,_,h⟩<;>cases h
 have hbr:∀ k,Own φ k->¬ (E.up fun _=>none).br k:=fun k hk hn=>hn.elim (hfr k hk) fun⟨id,h⟩=>by rcases h with h | ⟨_,_,_,h⟩<;>cases h
 have plain:∀ k cs,hs[k]?=some (.box cs)->cs.all VV.mem=true->∀ b,φ k=some (.box b)->∀ {m:Option Phi},V w (E.up fun _=>none) m (.tp cs) (.pointer (some ⟨b,0,none⟩)):=fun k cs ho hcs b hb m=>by
  obtain⟨p,hp,hv⟩:=hbox k _ ho
  rw[hb]at hp
  cases hp
  obtain⟨vs,ty,h1,h2⟩:=hv
  exact XE h1 (hbr b ⟨k,.inl hb⟩) (by rw[h2.1];exact Nat.le_refl _) fun j x hx=>hE (List.all_eq_true.1 hcs x (List.mem_of_getElem? hx)) (h2.2 j x hx)
 have tow:∀ n b,φ j=some (.box b)->∀ {m:Option Phi},V w (E.up fun _=>none) m (.tp (FD g ci n)) (.pointer (some ⟨b,0,none⟩)):=by
  intro n
  induction n with
  | zero =>
   intro b hb' m
   obtain⟨p,hp,hv⟩:=hbox j _ hj
   rw[hb']at hp
   cases hp
   obtain⟨vs,ty,h1,h2⟩:=hv
   refine XE h1 (hbr b ⟨j,.inl hb'⟩) (by rw[h2.1];exact Nat.le_refl _) fun k x hx=>?_
   have:x=.dead:=by
    have:=List.mem_of_getElem? hx
    simpa[FD] using this
   subst this
   exact .dead
  | succ n ih =>
   intro b hb' m
   obtain⟨p,hp,hv⟩:=hbox j _ hj
   rw[hb']at hp
   cases hp
   obtain⟨vs,ty,h1,h2⟩:=hv
   refine XE h1 (hbr b ⟨j,.inl hb'⟩) (by rw[h2.1];exact Nat.le_refl _) fun k x hx=>?_
   match k,hx with
   | k+1,hx=>simp[FD]at hx
   | 0,hx =>
    have e:x=.fn (.func g) [.tp ci,.tp (FD g ci n)]:=by
     have:some (VV.fn (.func g) [.tp ci,.tp (FD g ci n)])=some x:=hx
     exact(Option.some.inj this).symm
    subst e
    have hf:=h2.2 0 _ rfl
    generalize vs.getD 0 undef=v at hf
    cases hf with
    | fn a1 a2 =>
     refine .fn a1 fun q y hy=>?_
     obtain⟨bi,e1,e2⟩:=(a2 0 _ rfl).bp_inv
     obtain⟨bj,e3,e4⟩:=(a2 1 _ rfl).bp_inv
     rw[hb']at e3
     cases e3
     match q,hy with
     | 0,hy =>
      obtain rfl:VV.tp ci=y:=Option.some.inj hy
      rw[e2]
      exact plain i ci hi hci bi e1
     | 1,hy =>
      obtain rfl:VV.tp (FD g ci n)=y:=Option.some.inj hy
      rw[e4]
      exact ih b hb'
     | q+2,hy=>simp at hy
 have hlook:∀ (f:VV->VV) (t:Nat) (l:List (Nat × VV)),f .dead=.dead->C6 t (l.map fun p=>(p.1,f p.2))=f (C6 t l):=by
  intro f t l hf
  induction l with
  | nil=>exact hf.symm
  | cons p l ih =>
   simp only[List.map_cons,C6]
   cases Nat.beq t p.1 with
   | true=>rfl
   | false=>exact ih
 have hmem:∀ (t:Nat) (l:List (Nat × VV)),(∀ p∈l,p.2.mem=true∨∃ k,p.2=.bp k 0/\k<hs.length)->(C6 t l).mem=true∨∃ k,C6 t l=.bp k 0/\k<hs.length:=by
  intro t l hl
  induction l with
  | nil=>exact .inl rfl
  | cons p l ih =>
   simp only[C6]
   cases Nat.beq t p.1 with
   | true=>exact hl p (List.mem_cons_self ..)
   | false=>exact ih fun q hq=>hl q (List.mem_cons_of_mem _ hq)
 have none_blk:∀ {k:Nat},¬ Own (fun _=>none) k:=fun⟨id,h⟩=>by rcases h with h | ⟨_,_,_,h⟩<;>cases h
 have hrel:=h.h E (fun _=>none) a w ⟨hr.sz,hr.df,hr.old.sub fun k hk=>(none_blk hk).elim,fun t=>?_,⟨hr.hp.sub,fun id p e=>(by cases e),fun a b k ha _=>(none_blk ⟨a,ha⟩).elim,fun k hk=>(none_blk hk).elim⟩,fun _ _=>rfl,fun id hid=>absurd hid (Nat.not_lt_zero id)⟩
 ·refine Go.wp_mono hrel fun _ _ _ ⟨E',st',φ',h0,h1,h2,h3⟩=>⟨E',st',φ',h0,h1,h2,Fr.trans ⟨rfl,rfl,rfl,Nat.le_refl _,fun _ _ _=>rfl,fun k hk=>(none_blk hk).elim,fun id p hid=>?_⟩ h3⟩
  rw[hb]at hid
  exact absurd hid (Nat.not_lt_zero id)
 ·show V w _ _ (C6 t (l.map _)) _
  rw[hlook _ t l rfl]
  have ht:V w _ _ (C6 t l) _:=hr.tm t
  rcases hmem t l hl with hx | ⟨k,hx,hk⟩
  ·have:∀ H,Ai7 H (C6 t l)=C6 t l:=fun H=>by
    generalize C6 t l=x at hx
    cases x with
    | bp=>cases hx
    | _=>rfl
   rw[this]
   have:=hE hx ht
   exact this.held
  ·rw[hx]at ht ⊢
   obtain⟨b,e1,e2⟩:=ht.bp_inv
   rw[e2]
   show V w _ _ (.tp (bif Nat.beq k j then FD g ci n else match hs[k]? with
    | some (.box cs)=>cs
    | _=>[])) _
   cases hq:Nat.beq k j with
   | true =>
    obtain rfl:=Nat.eq_of_beq_eq_true hq
    rw[cond_true]
    exact tow n b e1
   | false =>
    rw[cond_false]
    rcases hm k _ (List.getElem?_eq_getElem hk) with rfl | ⟨cs,e,hc⟩
    ·rw[Nat.beq_refl]at hq;cases hq
    ·have hk':hs[k]?=some (.box cs):=by rw[List.getElem?_eq_getElem hk,e]
     rw[hk']
     exact plain k cs hk' hc b e1
end
def C0 (fz:Bool)(l:List (List Bool)):VV:=.sl fz l.length 1 fun i=>[AR true (l.getD i [])]
def XZ (x:D.Trans):List VV:=[Aa x.S.Kind,Aa x.S.A,Aa x.S.B,Aa x.S.N,Ad false x.S.Args,Ad false x.S.Match,AS x.S.Text,Aa x.To,Aa x.Line]
def Jc (l:List D.Trans):VV:=.sl false l.length 9 fun i=>XZ (l.getD i default)
def So (l:List (List D.Trans)):VV:=.sl false l.length 1 fun i=>[Jc (l.getD i [])]
def Po (x:D.Loc):List VV:=[Jc x.Out,So x.Esc,Ac x.Atomic,Ac x.Dstep,Ac x.End,Ac x.Accept,Ac x.Progress]
def HA (l:List D.Loc):VV:=.sl false l.length 7 fun i=>Po (l.getD i default)
def Fq (x:D.Proc):List VV:=[AS x.Name,Aa x.Params,Az false x.Frame,Ad false x.Init,HA x.Locs,Aa x.Start,Aa x.Final,Aa x.Active,Aa x.Prio,Aa x.Provided]
def DJ (l:List D.Proc):VV:=.sl false l.length 10 fun i=>Fq (l.getD i default)
def Ab2 (x:D.Expr):List VV:=[Aa x.Op,Aa x.N,Aa x.A,Aa x.B,Aa x.C,Aa x.V.Scope,Aa x.V.Slot,Aa x.V.Who,Aa x.V.Type_,BK false x.V.Dims,Ad false x.Args,Ad false x.Match]
def X1 (l:List D.Expr):VV:=.sl false l.length 12 fun i=>Ab2 (l.getD i default)
def X0 (x:D.Shape):List VV:=[Aa x.Room,Az false x.Fields]
def UV (l:List D.Shape):VV:=.sl false l.length 2 fun i=>X0 (l.getD i default)
def Ck (x:D.Model):List VV:=[Az false x.Globals,Ad false x.Init,UV x.Shapes,Ad false x.Chans,DJ x.Procs,Aa x.Claim,X1 x.Exprs]
def AhT : Shp:={ α:=List (List Bool) × Int,enc:=fun y=>([],.tup [C0 true y.1,Aa y.2]) }
def C5 (_:FuncId):Shp:=ZV
def Ce (f:FuncId):Shp :=
 bif Nat.beq f 63||Nat.beq f 65||Nat.beq f 64||Nat.beq f 51||Nat.beq f 120||Nat.beq f 121||Nat.beq f 122||Nat.beq f 118||Nat.beq f 119||Nat.beq f 14||Nat.beq f 5 then ZU
 else bif Nat.beq f 13 then AhT
 else bif Nat.beq f 8 then Aht
 else bif Nat.beq f 9 then Ac6
 else bif Nat.beq f 31||Nat.beq f 36||Nat.beq f 34||Nat.beq f 22||Nat.beq f 77||Nat.beq f 80||Nat.beq f 82||Nat.beq f 73||Nat.beq f 75||Nat.beq f 48||Nat.beq f 50||Nat.beq f 49||Nat.beq f 72||Nat.beq f 21||Nat.beq f 4||Nat.beq f 10 then ZV
 else B2 f
def FN : Ann:={ keep:=fun
  | [0,1,0,1,1,1,1,1,1,1,1]=>[2,3,5,7,8,10]
  | [0,1,0,0,1,0,0,1,0,1,1,1,1,1,1,1,1]=>[2,3,5,7,8,10,11]
  | [0,1,0,0,1,0,0,1,0,0,1,0,0,1,0,1,1,1,1,1,1,1,1]=>[2,3,5,7,8,10,11,12]
  | _=>[] }
def Tj (m:D.Model)(s:D.State)(up:Bool)(l:List Nx)(ps:List Int)(i:Int):St:=Av [(2,.bp 0 0),(3,.bp 1 0),(5,Ac up),(7,BC true l),(8,Ad true ps),(10,Aa i)] [.box (Af m),.box (Ae s)]
def YP (m:D.Model)(s:D.State)(up:Bool)(l:List Nx)(ps:List Int)(i a:Int):St:=Av [(2,.bp 0 0),(3,.bp 1 0),(5,Ac up),(7,BC true l),(8,Ad true ps),(10,Aa i),(11,Aa a)] [.box (Af m),.box (Ae s)]
def Ot (m:D.Model)(s:D.State)(up:Bool)(l:List Nx)(ps:List Int)(i a c:Int):St:=Av [(2,.bp 0 0),(3,.bp 1 0),(5,Ac up),(7,BC true l),(8,Ad true ps),(10,Aa i),(11,Aa a),(12,Aa c)] [.box (Af m),.box (Ae s)]
set_option maxRecDepth 100000
theorem AeY (b:Bool)(m:D.Model)(s:D.State):(fc Ce FN Tryz.f3 [] (Ac b)).goal (St.init [] [.agg (Af m),.agg (Ae s)]) =
  (∃ (y:Bool),VC 4 [] (Ac y)/\∃ (y_1:Int),VC 5 [VV.agg (Af m)] (Aa y_1)/\BB (y_1==0) (∃ (y_2:Int),VC 6 [VV.agg (Af m),VV.agg (Ae s)] (Aa y_2)/\BB (y_2 != 0) (LQ (Ac y) (Ac b)) (∃ (y_3:List Nx),VC 7 [VV.agg (Af m),VV.agg (Ae s)] (BC true y_3)/\∃ (y_4:List Int × Int),VC 8 [VV.agg (Af m),VV.agg (Ae s),BC true y_3] (VV.tup [Ad true y_4.fst,Aa y_4.snd])/\BB (y_4.snd != 0) (LQ (Ac false) (Ac b)) (Aq (fc Ce FN Tryz.f3 [] (Ac b)) [1,1,1,1,1,1,1,1,0,1,0] (Tj m s y y_3 y_4.fst (0:Int))))) (BB (y_1 != 0) (LQ (Ac y) (Ac b)) (∃ (y_2:List Nx),VC 7 [VV.agg (Af m),VV.agg (Ae s)] (BC true y_2)/\∃ (y_3:List Int × Int),VC 8 [VV.agg (Af m),VV.agg (Ae s),BC true y_2] (VV.tup [Ad true y_3.fst,Aa y_3.snd])/\BB (y_3.snd != 0) (LQ (Ac false) (Ac b)) (Aq (fc Ce FN Tryz.f3 [] (Ac b)) [1,1,1,1,1,1,1,1,0,1,0] (Tj m s y y_2 y_3.fst (0:Int)))))):=by kernel_rfl
theorem AbF (b:Bool)(m:D.Model)(s:D.State)(up:Bool)(l:List Nx)(ps:List Int)(i:Int)(J:St->Prop):((fc Ce FN Tryz.f3 [] (Ac b)).loop [1,1,1,1,1,1,1,1,0,1,0] J).goal (Tj m s up l ps i) =
  (BB (decide (i<(↑ps.length:Int))) (Aq ((fc Ce FN Tryz.f3 [] (Ac b)).loop [1,1,1,1,1,1,1,1,0,1,0] J) [1,0,0,1,0] (YP m s up l ps i (0:Int))) (∃ (y:Bool),VC 12 [VV.agg (Af m)] (Ac y)/\LQ (Ac (bif up then y else false)) (Ac b))):=by kernel_rfl
theorem AbE (b:Bool)(m:D.Model)(s:D.State)(up:Bool)(l:List Nx)(ps:List Int)(i a:Int)(J J2:St->Prop):(((fc Ce FN Tryz.f3 [] (Ac b)).loop [1,1,1,1,1,1,1,1,0,1,0] J).loop [1,0,0,1,0] J2).goal (YP m s up l ps i a) =
  (BB (decide (a<(↑l.length:Int))) (Aq (((fc Ce FN Tryz.f3 [] (Ac b)).loop [1,1,1,1,1,1,1,1,0,1,0] J).loop [1,0,0,1,0] J2) [1,0,0,1,0] (Ot m s up l ps i a (0:Int))) (J (Tj m s up l ps (IntKind.i64.wrap (i+(1:Int)))))):=by kernel_rfl
theorem AbD (b:Bool)(m:D.Model)(s:D.State)(up:Bool)(l:List Nx)(ps:List Int)(i a c:Int)(J J2 J3:St->Prop):((((fc Ce FN Tryz.f3 [] (Ac b)).loop [1,1,1,1,1,1,1,1,0,1,0] J).loop [1,0,0,1,0] J2).loop [1,0,0,1,0] J3).goal (Ot m s up l ps i a c) =
  (BB (decide (c<(↑l.length:Int))) (inX a l.length/\inX c l.length/\inX i ps.length/\((true&&((l.getD a.toNat default).Move.Pid != ps.getD i.toNat 0)==false)=true->inX i ps.length)/\((true&&(bif (l.getD a.toNat default).Move.Pid != ps.getD i.toNat 0 then true else(l.getD c.toNat default).Move.Pid==ps.getD i.toNat 0)==false)=true->inX i ps.length)/\((true&&(bif bif (l.getD a.toNat default).Move.Pid != ps.getD i.toNat 0 then true else(l.getD c.toNat default).Move.Pid==ps.getD i.toNat 0 then true else(l.getD c.toNat default).Move.With==ps.getD i.toNat 0)==false)=true->inX a l.length)/\((true&&(bif bif bif (l.getD a.toNat default).Move.Pid != ps.getD i.toNat 0 then true else(l.getD c.toNat default).Move.Pid==ps.getD i.toNat 0 then true else(l.getD c.toNat default).Move.With==ps.getD i.toNat 0 then true else(l.getD a.toNat default).Err != 0)==false)=true->inX c l.length)/\BB (bif bif bif bif (l.getD a.toNat default).Move.Pid != ps.getD i.toNat 0 then true else(l.getD c.toNat default).Move.Pid==ps.getD i.toNat 0 then true else(l.getD c.toNat default).Move.With==ps.getD i.toNat 0 then true else(l.getD a.toNat default).Err != 0 then true else(l.getD c.toNat default).Err != 0) (J3 (Ot m s up l ps i a (IntKind.i64.wrap (c+(1:Int))))) (inX i ps.length/\∃ (y:D.State × Int),VC 9 [VV.agg (Af m),VV.agg (Ae s),Aa (ps.getD i.toNat 0),VV.agg [Aa (l.getD a.toNat default).Move.Esc,Aa (l.getD a.toNat default).Move.Way,Aa (-1),Aa (-1),Aa (-1),Aa 0]] (VV.tup [VV.agg (Ae y.fst),Aa y.snd])/\∃ (y_1:D.State × Int),VC 9 [VV.agg (Af m),VV.agg (Ae s),Aa (l.getD c.toNat default).Move.Pid,VV.agg [Aa (l.getD c.toNat default).Move.Esc,Aa (l.getD c.toNat default).Move.Way,Aa (l.getD c.toNat default).Move.With,Aa (l.getD c.toNat default).Move.WithEsc,Aa (l.getD c.toNat default).Move.WithWay,Aa 0]] (VV.tup [VV.agg (Ae y_1.fst),Aa y_1.snd])/\inX i ps.length/\∃ (y_2:Bool),VC 10 [VV.agg (Af m),VV.agg (Ae y_1.fst),Aa (ps.getD i.toNat 0),VV.agg [Aa (l.getD a.toNat default).Move.Esc,Aa (l.getD a.toNat default).Move.Way,Aa (-1),Aa (-1),Aa (-1),Aa 0]] (Ac y_2)/\∃ (y_3:Bool),VC 10 [VV.agg (Af m),VV.agg (Ae y.fst),Aa (l.getD c.toNat default).Move.Pid,VV.agg [Aa (l.getD c.toNat default).Move.Esc,Aa (l.getD c.toNat default).Move.Way,Aa (l.getD c.toNat default).Move.With,Aa (l.getD c.toNat default).Move.WithEsc,Aa (l.getD c.toNat default).Move.WithWay,Aa 0]] (Ac y_3)/\BB (bif !y_2 then true else !y_3) (LQ (Ac false) (Ac b)) (∃ (y_4:D.State × Int),VC 9 [VV.agg (Af m),VV.agg (Ae y.fst),Aa (l.getD c.toNat default).Move.Pid,VV.agg [Aa (l.getD c.toNat default).Move.Esc,Aa (l.getD c.toNat default).Move.Way,Aa (l.getD c.toNat default).Move.With,Aa (l.getD c.toNat default).Move.WithEsc,Aa (l.getD c.toNat default).Move.WithWay,Aa 0]] (VV.tup [VV.agg (Ae y_4.fst),Aa y_4.snd])/\inX i ps.length/\∃ (y:D.State × Int),VC 9 [VV.agg (Af m),VV.agg (Ae y_1.fst),Aa (ps.getD i.toNat 0),VV.agg [Aa (l.getD a.toNat default).Move.Esc,Aa (l.getD a.toNat default).Move.Way,Aa (-1),Aa (-1),Aa (-1),Aa 0]] (VV.tup [VV.agg (Ae y.fst),Aa y.snd])/\∃ (y_5:Bool),VC 11 [VV.agg (Ae y_4.fst),VV.agg (Ae y.fst)] (Ac y_5)/\BB (bif y_4.snd != y.snd then true else !y_5) (LQ (Ac false) (Ac b)) (J3 (Ot m s up l ps i a (IntKind.i64.wrap (c+(1:Int)))))))) (J2 (YP m s up l ps i (IntKind.i64.wrap (a+(1:Int)))))):=by kernel_rfl
end Go.Proofs.YtlhajmkjfcbhnaaGreat
namespace Go.Proofs.YtlhajmkjfcbhnaaGreat
open Go.RowKit
def MR : Ann:={ keep:=fun
  | [0,1,0,1,1]=>[3,4,29,30,31]
  | _=>[] }
def HH : Ann:={ keep:=fun
  | [0,1,0,1,1,1]=>[1,5,17,18,19]
  | [0,1,0,1,1,0,0,1,1,0,0,1,0,1,1,1]=>[1,5,7,8,17,18,19,24,25,26]
  | _=>[] }
def KU : Ann:={ keep:=fun
  | [0,1,0,1,1,1,1]=>[2,3,10,26,27,28]
  | _=>[] }
def E6 : Ann:={ keep:=fun
  | [0,1,0,1,1,1,1]=>[1,4]
  | [0,1,0,1,1,1,1,1,1]=>[1,5,6]
  | [0,1,0,1,1,1,1,1,1,1]=>[1,5,8]
  | [0,1,0,0,1,0,0,1,0,1,1,1,1,1,1,1]=>[1,5,8,9]
  | _=>[] }
def PD : Ann:={ keep:=fun
  | [0,1,0,1,1]=>[7,9,10]
  | _=>[] }
def BU : Ann:={ keep:=fun
  | [0,1,0,1]=>[0,1,7,8]
  | _=>[] }
def Hi (t f:VV)(n k:Int):St:=Av [(0,t),(1,f),(7,Aa n),(8,Aa k)] []
def Ai8 : List Nat:=[1,1,1]
def PC : Ann:={ cut:=(fun | [1,1,1]=>true | _=>false),keep:=fun
  | [1,1,1]=>[2,3,5]
  | _=>[] }
def Qw (l:List Bool):Nat->List VV:=fun i=>[Ac (l.getD i false)]
def H1 (l:List (List Bool)):Nat->List VV:=fun i=>[AR true (l.getD i [])]
def Af9 (m:D.Model)(p:D.Proc)(w:List D.Trans)(k:Int):St:=Av [(3,.bp 0 0),(4,.bp 1 0),(29,As true w),(30,Aa w.length),(31,Aa k)] [.box (Af m),.box (AO p)]
def AiG (m:D.Model)(out:List (List Bool))(k:Int):St:=Av [(1,.bp 0 0),(5,.ow 1 0 out.length),(17,DJ m.Procs),(18,Aa m.Procs.length),(19,Aa k)] [.box (Ck m),.arr true 0 out.length 1 (H1 out)]
def AiF (m:D.Model)(out:List (List Bool))(k:Int)(p:D.Proc)(row:List Bool)(j:Int):St:=Av [(1,.bp 0 0),(5,.ow 1 0 out.length),(7,.bp 2 0),(8,.ow 3 0 row.length),(17,DJ m.Procs),(18,Aa m.Procs.length),(19,Aa k),(24,HA p.Locs),(25,Aa p.Locs.length),(26,Aa j)] [.box (Ck m),.arr true 0 out.length 1 (H1 out),.box (Fq p),.arr true 0 row.length 1 (Qw row)]
def AhI (m:D.Model)(l:List Nx)(ps:List D.Process)(out:List Int)(k:Int):St:=Av [(2,BC true l),(3,.bp 0 0),(10,.ow 1 0 out.length),(26,Ay true ps),(27,Aa ps.length),(28,Aa k)] [.box (Af m),.arr true 0 out.length 1 (AJ out)]
def YD (m:D.Model)(k:Int):St:=Av [(1,.bp 0 0),(4,Aa k)] [.box (Af m)]
def M0 (m:D.Model)(t:Bool)(q:Nat)(k:Int):St:=Av [(1,.bp 0 0),(5,Ac t),(q,Aa k)] [.box (Af m)]
def YC (m:D.Model)(t:Bool)(k j:Int):St:=Av [(1,.bp 0 0),(5,Ac t),(8,Aa k),(9,Aa j)] [.box (Af m)]
def YQ (w:Wy)(l:List Wy)(k:Int):St:=Av [(7,.bp 0 0),(9,BY true l),(10,Aa k)] [.box (Bu w)]
def Ahs (m:D.Model)(s:D.Stmt)(c:List VV):St:=Av [(2,.tp (Af m)),(3,.tp (Ar s)),(5,.tp c)] []
set_option maxRecDepth 100000
theorem Aeu (b:Bool)(x:D.Expr):(fc Ce A5 Tryz.f29 [] (Ac b)).goal (St.init [] [.agg (AE x)]) =
  (LQ (Ac (bif bif bif bif x.Op==32 then true else x.Op==36 then true else x.Op==37 then true else x.Op==38 then true else bif x.Op==2 then x.V.Scope==2 else false)) (Ac b)):=by kernel_rfl
theorem Ad1 (b:Bool)(m:D.Model)(p:D.Proc):(fc Ce A5 Tryz.f30 [] (Ac b)).goal (St.init [] [.agg (AO p),.tp (Af m)]) =
  (inX (0:Int) m.Procs.length/\LQ (Ac (p.Prio != (m.Procs.getD (Int.toNat (0:Int)) default).Prio)) (Ac b)):=by kernel_rfl
theorem AdU (b:Bool)(x:D.Expr):(fc Ce A5 Tryz.f32 [] (Ac b)).goal (St.init [] [.agg (AE x)]) =
  (LQ (Ac (x.Op==35)) (Ac b)):=by kernel_rfl
theorem AeG (b:Bool)(p:D.Proc):(fc Ce A5 Tryz.f33 [] (Ac b)).goal (St.init [] [.agg (AO p)]) =
  (∃ (y:Bool),VC 34 [Cm true p.Locs,VV.fn (Fn.func (nat_lit 35)) []] (Ac y)/\LQ (Ac y) (Ac b)):=by kernel_rfl
theorem AeE (b:Bool)(l:D.Loc):(fc Ce A5 Tryz.f35 [] (Ac b)).goal (St.init [] [.agg (Bf l)]) =
  (LQ (Ac l.Atomic) (Ac b)):=by kernel_rfl
theorem AeI (r:Int)(m:D.Model):(fc Ce A5 Tryz.f14 [] (Aa r)).goal (St.init [] [.agg (Af m)]) =
  (∃ (y:Int × Int × Int),VC 28 [VV.agg (Af m)] (AcE y)/\BB (y.fst != 0) (LQ (Aa y.fst) (Aa r)) (∃ (y:Bool),VC 31 [A7 true m.Exprs,VV.fn (Fn.func (nat_lit 32)) []] (Ac y)/\∃ (y_1:Bool),((true&&decide (m.Claim>=0)==false)=true->VC 31 [A7 true m.Exprs,VV.fn (Fn.func (nat_lit 29)) []] (Ac y_1))/\∃ (y_2:Bool),((true&&(bif decide (m.Claim>=0) then true else y_1)==false)=true->VC 36 [AM true m.Procs,VV.fn (Fn.func (nat_lit 30)) [tpM m]] (Ac y_2))/\∃ (y_3:Bool),((true&&(bif bif decide (m.Claim>=0) then true else y_1 then true else y_2)==false&&y==true)=true->VC 36 [AM true m.Procs,VV.fn (Fn.func (nat_lit 33)) []] (Ac y_3))/\BB (bif bif bif decide (m.Claim>=0) then true else y_1 then true else y_2 then true else bif y then y_3 else false) (LQ (Aa 44) (Aa r)) (LQ (Aa 0) (Aa r)))):=by kernel_rfl
theorem Abe (b:Bool)(l:D.Loc):(fc Ce A5 Tryz.f48 [] (Ac b)).goal (St.init [] [.agg (Bf l)]) =
  (LQ (Ac (bif bif bif l.Atomic then true else l.Dstep then true else l.Accept then true else l.Progress)) (Ac b)):=by kernel_rfl
theorem Xm (b:Bool)(m:D.Model)(l:D.Loc):(fc Ce A5 Tryz.f50 [] (Ac b)).goal (St.init [] [.agg (Af m),.agg (Bf l)]) =
  (∃ (y:Bool),VC 77 [AX true m.Shapes,VV.fn (Fn.func (nat_lit 78)) []] (Ac y)/\BB (!y) (LQ (Ac false) (Ac b)) ((1+l.Esc.length)*24<=140737488355328/\(∀ (i:Nat),i<l.Esc.length->((fun(i:Nat)=>[As true (l.Esc.getD i [])]) i).all VV.mem1=true)/\∃ (y:Bool),VC 80 [VV.sl false (1+l.Esc.length) 1 fun(i:Nat)=>bif i.blt 1 then(fun(i:Nat)=>List.take 1 (List.drop (i*1) [As true l.Out])) i else[As true (l.Esc.getD (i - 1) [])],VV.fn (Fn.func (nat_lit 81)) [VV.tp [VV.fn (Fn.func (nat_lit 79)) []]]] (Ac y)/\LQ (Ac y) (Ac b))):=by kernel_rfl
theorem Ad5 (b:Bool)(s:D.Shape):(fc Ce A5 Tryz.f78 [] (Ac b)).goal (St.init [] [.agg (BZ s)]) =
  (LQ (Ac (s.Room==0)) (Ac b)):=by kernel_rfl
theorem Ad4 (b:Bool)(t:D.Trans):(fc Ce A5 Tryz.f79 [] (Ac b)).goal (St.init [] [.agg (Gb t)]) =
  (LQ (Ac (bif t.S.Kind==6 then decide (t.S.N<2) else false)) (Ac b)):=by kernel_rfl
theorem Ad3 (b:Bool)(w:List D.Trans):(fc Ce A5 Tryz.f81 [] (Ac b)).goal (St.init [] [As true w,.tp [.fn (.func 79) []]]) =
  (∃ (y:Bool),VC 82 [As true w,VV.fn (Fn.func (nat_lit 79)) []] (Ac y)/\LQ (Ac y) (Ac b)):=by kernel_rfl
theorem YZ (b:Bool)(m:D.Model)(x:Int)(c:List VV):(fc Ce A5 Tryz.f72 [] (Ac b)).goal (St.init [] [Aa x,.tp (Af m),.tp [.fn (.func 72) [.tp (Af m),.tp c]]]) =
  (BB (decide (x<0)) (LQ (Ac true) (Ac b)) (inX x m.Exprs.length/\BB ((m.Exprs.getD x.toNat default).Op==1) (BB ((m.Exprs.getD x.toNat default).Op==1) (LQ (Ac true) (Ac b)) (BB ((m.Exprs.getD x.toNat default).Op==2) (∃ (y:Bool),((true&&((m.Exprs.getD x.toNat default).V.Scope==1)==true)=true->VC 73 [BK true (m.Exprs.getD x.toNat default).V.Dims,VV.fn (Fn.func (nat_lit 74)) [VV.tp [VV.fn (Fn.func (nat_lit 72)) [tpM m,VV.tp c]]]] (Ac y))/\LQ (Ac (bif (m.Exprs.getD x.toNat default).V.Scope==1 then !y else false)) (Ac b)) (∃ (y:Bool),((true&&(bif decide ((m.Exprs.getD x.toNat default).Op>=3) then decide ((m.Exprs.getD x.toNat default).Op<=24) else false)==true)=true->VC 72 [Aa (m.Exprs.getD x.toNat default).A,tpM m,VV.tp c] (Ac y))/\∃ (y_1:Bool),((true&&(bif bif decide ((m.Exprs.getD x.toNat default).Op>=3) then decide ((m.Exprs.getD x.toNat default).Op<=24) else false then y else false)==true)=true->VC 72 [Aa (m.Exprs.getD x.toNat default).B,tpM m,VV.tp c] (Ac y_1))/\∃ (y_2:Bool),((true&&(bif bif bif decide ((m.Exprs.getD x.toNat default).Op>=3) then decide ((m.Exprs.getD x.toNat default).Op<=24) else false then y else false then y_1 else false)==true)=true->VC 72 [Aa (m.Exprs.getD x.toNat default).C,tpM m,VV.tp c] (Ac y_2))/\LQ (Ac (bif bif bif bif decide ((m.Exprs.getD x.toNat default).Op>=3) then decide ((m.Exprs.getD x.toNat default).Op<=24) else false then y else false then y_1 else false then y_2 else false)) (Ac b)))) (BB ((m.Exprs.getD x.toNat default).Op==31) (LQ (Ac true) (Ac b)) (BB ((m.Exprs.getD x.toNat default).Op==2) (∃ (y:Bool),((true&&((m.Exprs.getD x.toNat default).V.Scope==1)==true)=true->VC 73 [BK true (m.Exprs.getD x.toNat default).V.Dims,VV.fn (Fn.func (nat_lit 74)) [VV.tp [VV.fn (Fn.func (nat_lit 72)) [tpM m,VV.tp c]]]] (Ac y))/\LQ (Ac (bif (m.Exprs.getD x.toNat default).V.Scope==1 then !y else false)) (Ac b)) (∃ (y:Bool),((true&&(bif decide ((m.Exprs.getD x.toNat default).Op>=3) then decide ((m.Exprs.getD x.toNat default).Op<=24) else false)==true)=true->VC 72 [Aa (m.Exprs.getD x.toNat default).A,tpM m,VV.tp c] (Ac y))/\∃ (y_1:Bool),((true&&(bif bif decide ((m.Exprs.getD x.toNat default).Op>=3) then decide ((m.Exprs.getD x.toNat default).Op<=24) else false then y else false)==true)=true->VC 72 [Aa (m.Exprs.getD x.toNat default).B,tpM m,VV.tp c] (Ac y_1))/\∃ (y_2:Bool),((true&&(bif bif bif decide ((m.Exprs.getD x.toNat default).Op>=3) then decide ((m.Exprs.getD x.toNat default).Op<=24) else false then y else false then y_1 else false)==true)=true->VC 72 [Aa (m.Exprs.getD x.toNat default).C,tpM m,VV.tp c] (Ac y_2))/\LQ (Ac (bif bif bif bif decide ((m.Exprs.getD x.toNat default).Op>=3) then decide ((m.Exprs.getD x.toNat default).Op<=24) else false then y else false then y_1 else false then y_2 else false)) (Ac b)))))):=by kernel_rfl
theorem Ad7 (b:Bool)(m:D.Model)(d:D.Dim)(c:List VV):(fc Ce A5 Tryz.f74 [] (Ac b)).goal (St.init [] [.agg (JO d),.tp [.fn (.func 72) [.tp (Af m),.tp c]]]) =
  (∃ (y:Bool),VC 72 [Aa d.I,tpM m,VV.tp c] (Ac y)/\LQ (Ac !y) (Ac b)):=by kernel_rfl
theorem Ad6 (b:Bool)(m:D.Model)(x:Int)(c:List VV):(fc Ce A5 Tryz.f76 [] (Ac b)).goal (St.init [] [Aa x,.tp [.fn (.func 72) [.tp (Af m),.tp c]]]) =
  (∃ (y:Bool),VC 72 [Aa x,tpM m,VV.tp c] (Ac y)/\LQ (Ac !y) (Ac b)):=by kernel_rfl
theorem AdZ (b:Bool)(m:D.Model)(s:D.Stmt):(fc Ce PC Tryz.f49 [] (Ac b)).goal (St.init [] [.agg (Af m),.agg (Ar s)]) =
  (Aq (fc Ce PC Tryz.f49 [] (Ac b)) [1,1,1] (Av [(2,VV.bp 0 0),(3,VV.bp 1 0),(5,VV.bp 2 0)] [Ob.box (Af m),Ob.box (Ar s),Ob.box [VV.fn (Fn.func (nat_lit 72)) [VV.bp 0 0,VV.bp 2 0]]])):=by kernel_rfl
theorem Abf (b:Bool)(m:D.Model)(p:D.Proc)(l:D.Loc):(fc Ce MR Tryz.f21 [] (Ac b)).goal (St.init [] [.agg (Af m),.agg (AO p),.agg (Bf l)]) =
  (∃ (y:Bool),((true&&(bif (↑l.Out.length:Int)==0 then true else decide ((↑l.Esc.length:Int) > 0))==false)=true->VC 48 [VV.agg (Bf l)] (Ac y))/\BB (bif bif bif (↑l.Out.length:Int)==0 then true else decide ((↑l.Esc.length:Int) > 0) then true else y then true else decide (p.Provided>=0)) (LQ (Ac false) (Ac b)) (Aq (fc Ce MR Tryz.f21 [] (Ac b)) [1,1,0,1,0] (Af9 m p l.Out (0:Int)))):=by kernel_rfl
theorem Abp (r:List (List Bool) × Int)(m:D.Model):(fc Ce HH Tryz.f13 [] (.tup [C0 true r.1,Aa r.2])).goal (St.init [] [.agg (Ck m)]) =
  (∃ (y:Int),VC 14 [VV.agg (Ck m)] (Aa y)/\BB (y != 0) (LQ (VV.tup [VV.nl,Aa y]) (VV.tup [C0 true r.fst,Aa r.snd])) (Aq (fc Ce HH Tryz.f13 [] (VV.tup [C0 true r.fst,Aa r.snd])) [1,1,1,0,1,0] (Av [(1,VV.bp 0 0),(5,VV.nl),(17,DJ m.Procs),(18,Aa (↑m.Procs.length:Int)),(19,Aa 0)] [Ob.box (Ck m)]))):=by kernel_rfl
theorem Xp (r:List Int × Int)(m:D.Model)(s:D.State)(l:List Nx):(fc Ce KU Tryz.f8 [] (.tup [Ad true r.1,Aa r.2])).goal (St.init [] [.agg (Af m),.agg (Ae s),BC true l]) =
  (∃ (y:Int),VC 14 [VV.agg (Af m)] (Aa y)/\BB (y != 0) (LQ (VV.tup [VV.nl,Aa y]) (VV.tup [Ad true r.fst,Aa r.snd])) (∃ (y:Int),VC 20 [VV.agg (Af m),VV.agg (Ae s)] (Aa y)/\BB (y != 0) (LQ (VV.tup [VV.nl,Aa y]) (VV.tup [Ad true r.fst,Aa r.snd])) (Aq (fc Ce KU Tryz.f8 [] (VV.tup [Ad true r.fst,Aa r.snd])) [1,1,1,1,0,1,0] (Av [(2,BC true l),(3,VV.bp 0 0),(10,VV.nl),(26,Ay true s.Procs),(27,Aa (↑s.Procs.length:Int)),(28,Aa 0)] [Ob.box (Af m)])))):=by kernel_rfl
theorem AeH (b:Bool)(n:Nx)(i:Int):(fc Ce A5 Tryz.f23 [] (Ac b)).goal (St.init [] [.agg (CI n),.tp [Aa i]]) =
  (LQ (Ac (n.Move.Pid==i)) (Ac b)):=by kernel_rfl
theorem AgM (b:Bool)(g:FuncId)(l:List D.Expr):(fc Ce A5 Tryz.f31 [] (Ac b)).goal (St.init [] [A7 true l,.fn (.func g) []]) =
  (∃ (y:Int),VC 63 [A7 true l,VV.fn (Fn.func g) []] (Aa y)/\LQ (Ac (decide (y>=0))) (Ac b)):=by kernel_rfl
theorem AgI (b:Bool)(g:FuncId)(l:List D.Proc):(fc Ce A5 Tryz.f36 [] (Ac b)).goal (St.init [] [AM true l,.fn (.func g) []]) =
  (∃ (y:Int),VC 65 [AM true l,VV.fn (Fn.func g) []] (Aa y)/\LQ (Ac (decide (y>=0))) (Ac b)):=by kernel_rfl
theorem AgH (b:Bool)(g:FuncId)(c:List VV)(l:List D.Proc):(fc Ce A5 Tryz.f36 [] (Ac b)).goal (St.init [] [AM true l,.fn (.func g) [.tp c]]) =
  (∃ (y:Int),VC 65 [AM true l,VV.fn (Fn.func g) [VV.tp c]] (Aa y)/\LQ (Ac (decide (y>=0))) (Ac b)):=by kernel_rfl
theorem AgK (b:Bool)(g:FuncId)(l:List D.Loc):(fc Ce A5 Tryz.f34 [] (Ac b)).goal (St.init [] [Cm true l,.fn (.func g) []]) =
  (∃ (y:Int),VC 64 [Cm true l,VV.fn (Fn.func g) []] (Aa y)/\LQ (Ac (decide (y>=0))) (Ac b)):=by kernel_rfl
theorem AgJ (b:Bool)(g:FuncId)(c:List VV)(l:List Nx):(fc Ce A5 Tryz.f22 [] (Ac b)).goal (St.init [] [BC true l,.fn (.func g) [.tp c]]) =
  (∃ (y:Int),VC 51 [BC true l,VV.fn (Fn.func g) [VV.tp c]] (Aa y)/\LQ (Ac (decide (y>=0))) (Ac b)):=by kernel_rfl
theorem AgG (b:Bool)(g:FuncId)(l:List D.Shape):(fc Ce A5 Tryz.f77 [] (Ac b)).goal (St.init [] [AX true l,.fn (.func g) []]) =
  (∃ (y:Int),VC 120 [AX true l,VV.fn (Fn.func g) []] (Aa y)/\LQ (Ac (decide (y>=0))) (Ac b)):=by kernel_rfl
theorem AgE (b:Bool)(g:FuncId)(c:List VV)(l:List (List D.Trans)):(fc Ce A5 Tryz.f80 [] (Ac b)).goal (St.init [] [AW false l,.fn (.func g) [.tp c]]) =
  (∃ (y:Int),VC 121 [AW false l,VV.fn (Fn.func g) [VV.tp c]] (Aa y)/\LQ (Ac (decide (y>=0))) (Ac b)):=by kernel_rfl
theorem AgF (b:Bool)(g:FuncId)(l:List D.Trans):(fc Ce A5 Tryz.f82 [] (Ac b)).goal (St.init [] [As true l,.fn (.func g) []]) =
  (∃ (y:Int),VC 122 [As true l,VV.fn (Fn.func g) []] (Aa y)/\LQ (Ac (decide (y>=0))) (Ac b)):=by kernel_rfl
theorem AgN (b:Bool)(g:FuncId)(c:List VV)(l:List D.Dim):(fc Ce A5 Tryz.f73 [] (Ac b)).goal (St.init [] [BK true l,.fn (.func g) [.tp c]]) =
  (∃ (y:Int),VC 118 [BK true l,VV.fn (Fn.func g) [VV.tp c]] (Aa y)/\LQ (Ac (decide (y>=0))) (Ac b)):=by kernel_rfl
theorem AgL (b:Bool)(g:FuncId)(c:List VV)(l:List Int):(fc Ce A5 Tryz.f75 [] (Ac b)).goal (St.init [] [Ad true l,.fn (.func g) [.tp c]]) =
  (∃ (y:Int),VC 119 [Ad true l,VV.fn (Fn.func g) [VV.tp c]] (Aa y)/\LQ (Ac (decide (y>=0))) (Ac b)):=by kernel_rfl
theorem Ady (r:Int)(m:D.Model):(fc Ce E6 Tryz.f5 [] (Aa r)).goal (St.init [] [.agg (Af m)]) =
  (∃ (y:Bool),VC 12 [VV.agg (Af m)] (Ac y)/\BB (!y) (LQ (Aa 40) (Aa r)) (BB (decide (m.Claim>=0)) (LQ (Aa 44) (Aa r)) (Aq (fc Ce E6 Tryz.f5 [] (Aa r)) [1,1,1,1,0,1,0] (YD m (0:Int))))):=by kernel_rfl
theorem Ae4 (b:Bool)(m:D.Model)(s:D.State)(pid:Int)(w:Wy):(fc Ce PD Tryz.f10 [] (Ac b)).goal (St.init [] [.agg (Af m),.agg (Ae s),Aa pid,.agg (Bu w)]) =
  (∃ (y:List Wy),VC 18 [VV.agg [Az true m.Globals,Ad true m.Init,AX true m.Shapes,Ad true m.Chans,AM true m.Procs,Aa m.Claim,A7 true m.Exprs,Ad true s.Globals,AV true s.Chans,Ay true s.Procs,Aa s.Last,Aa s.Alone,Aa s.Claim,Aa pid,Ac false,VV.nl]] (BY true y)/\Aq (fc Ce PD Tryz.f10 [] (Ac b)) [1,1,0,1,0] (YQ w y (0:Int))):=by kernel_rfl
theorem AbH (r:D.State × Int)(m:D.Model)(s:D.State)(pid:Int)(w:Wy):(fc Ce A5 Tryz.f9 [] (.tup [.agg (Ae r.1),Aa r.2])).goal (St.init [] [.agg (Af m),.agg (Ae s),Aa pid,.agg (Bu w)]) =
  (∃ (y:D.State × ByteArray × Int),VC 24 [VV.agg [Az true m.Globals,Ad true m.Init,AX true m.Shapes,Ad true m.Chans,AM true m.Procs,Aa m.Claim,A7 true m.Exprs,Ad true s.Globals,AV true s.Chans,Ay true s.Procs,Aa s.Last,Aa s.Alone,Aa s.Claim,Aa pid,Ac false,VV.nl],VV.agg (Bu w)] (VV.tup [VV.agg (Ae y.fst),AS y.snd.fst,Aa y.snd.snd])/\LQ (VV.tup [VV.agg [Ad true y.fst.Globals,AV true y.fst.Chans,Ay true y.fst.Procs,Aa 0,Aa (-1),Aa y.fst.Claim],Aa y.snd.snd]) (VV.tup [VV.agg (Ae r.fst),Aa r.snd])):=by kernel_rfl
theorem AbB (b:Bool) :(fc Ce A5 Tryz.f4 [] (Ac b)).goal (St.init [] []) =
  (∃ (y:List (List Bool) × Int),VC 13 [VV.agg [VV.sl false 1 2 fun(i:Nat)=>List.take 2 (List.drop (i*2) [Aa 8,Ac false]),VV.sl false 1 1 fun(i:Nat)=>List.take 1 (List.drop (i*1) [Aa 0]),VV.nl,VV.nl,VV.sl false 1 10 fun(i:Nat)=>[[AS ByteArray.empty,Aa 0,VV.sl false 1 2 fun(i:Nat)=>List.take 2 (List.drop (i*2) [Aa 8,Ac false]),VV.sl false 1 1 fun(i:Nat)=>List.take 1 (List.drop (i*1) [Aa 0]),VV.sl false 3 7 fun(i:Nat)=>[[VV.sl false 1 9 fun(i:Nat)=>List.take 9 (List.drop (i*9) [Aa 2,Aa 1,Aa 0,Aa 0,VV.nl,VV.nl,AS ByteArray.empty,Aa 1,Aa 0]),VV.nl,Ac false,Ac false,Ac false,Ac false,Ac false],[VV.sl false 1 9 fun(i:Nat)=>List.take 9 (List.drop (i*9) [Aa 2,Aa 2,Aa 0,Aa 0,VV.nl,VV.nl,AS ByteArray.empty,Aa 2,Aa 0]),VV.nl,Ac false,Ac false,Ac false,Ac false,Ac false],[VV.nl,VV.nl,Ac false,Ac false,Ac false,Ac false,Ac false]].getD i [],Aa 0,Aa 2,Aa 0,Aa 1,Aa (-1)]].getD i [],Aa (-1),VV.sl false 3 12 fun(i:Nat)=>List.take 12 (List.drop (i*12) [Aa 1,Aa 1,Aa (-1),Aa (-1),Aa (-1),Aa 0,Aa 0,Aa 0,Aa 0,VV.nl,VV.nl,VV.nl,Aa 2,Aa 0,Aa (-1),Aa (-1),Aa (-1),Aa 1,Aa 0,Aa (-1),Aa (-1),VV.nl,VV.nl,VV.nl,Aa 2,Aa 0,Aa (-1),Aa (-1),Aa (-1),Aa 0,Aa 0,Aa (-1),Aa (-1),VV.nl,VV.nl,VV.nl])]] (VV.tup [C0 true y.fst,Aa y.snd])/\((true&&((↑y.fst.length:Int) != 1)==false)=true->inX (0:Int) y.fst.length)/\BB (bif (↑y.fst.length:Int) != 1 then true else(↑(y.fst.getD (Int.toNat (0:Int)) []).length:Int) != 3) (LQ (Ac false) (Ac b)) ((3+1)*144<=140737488355328/\∃ (y_1:Int),VC 14 [VV.agg [VV.sl false 1 2 fun(i:Nat)=>List.take 2 (List.drop (i*2) [Aa 8,Ac false]),VV.sl false 1 1 fun(i:Nat)=>List.take 1 (List.drop (i*1) [Aa 0]),VV.nl,VV.nl,VV.sl false 1 10 fun(i:Nat)=>[[AS ByteArray.empty,Aa 0,VV.sl false 1 2 fun(i:Nat)=>List.take 2 (List.drop (i*2) [Aa 8,Ac false]),VV.sl false 1 1 fun(i:Nat)=>List.take 1 (List.drop (i*1) [Aa 0]),VV.sl false 3 7 fun(i:Nat)=>[[VV.sl false 1 9 fun(i:Nat)=>List.take 9 (List.drop (i*9) [Aa 2,Aa 1,Aa 0,Aa 0,VV.nl,VV.nl,AS ByteArray.empty,Aa 1,Aa 0]),VV.nl,Ac false,Ac false,Ac false,Ac false,Ac false],[VV.sl false 1 9 fun(i:Nat)=>List.take 9 (List.drop (i*9) [Aa 2,Aa 2,Aa 0,Aa 0,VV.nl,VV.nl,AS ByteArray.empty,Aa 2,Aa 0]),VV.nl,Ac false,Ac false,Ac false,Ac false,Ac false],[VV.nl,VV.nl,Ac false,Ac false,Ac false,Ac false,Ac false]].getD i [],Aa 0,Aa 2,Aa 0,Aa 1,Aa (-1)]].getD i [],Aa (-1),VV.sl false 4 12 fun(i:Nat)=>bif i.blt 3 then(fun(i:Nat)=>List.take 12 (List.drop (i*12) [Aa 1,Aa 1,Aa (-1),Aa (-1),Aa (-1),Aa 0,Aa 0,Aa 0,Aa 0,VV.nl,VV.nl,VV.nl,Aa 2,Aa 0,Aa (-1),Aa (-1),Aa (-1),Aa 1,Aa 0,Aa (-1),Aa (-1),VV.nl,VV.nl,VV.nl,Aa 2,Aa 0,Aa (-1),Aa (-1),Aa (-1),Aa 0,Aa 0,Aa (-1),Aa (-1),VV.nl,VV.nl,VV.nl])) i else(fun(i:Nat)=>List.take 12 (List.drop (i*12) [Aa 32,Aa 0,Aa (-1),Aa (-1),Aa (-1),Aa 0,Aa 0,Aa 0,Aa 0,VV.nl,VV.nl,VV.nl])) (i - 3)]] (Aa y_1)/\((true&&(y.snd==0)==true)=true->inX (0:Int) y.fst.length)/\((true&&(y.snd==0)==true)=true->inX (0:Int) (y.fst.getD (Int.toNat (0:Int)) []).length)/\((true&&(bif y.snd==0 then(y.fst.getD (Int.toNat (0:Int)) []).getD (Int.toNat (0:Int)) false else false)==true)=true->inX (0:Int) y.fst.length)/\((true&&(bif y.snd==0 then(y.fst.getD (Int.toNat (0:Int)) []).getD (Int.toNat (0:Int)) false else false)==true)=true->inX (1:Int) (y.fst.getD (Int.toNat (0:Int)) []).length)/\((true&&(bif bif y.snd==0 then(y.fst.getD (Int.toNat (0:Int)) []).getD (Int.toNat (0:Int)) false else false then !(y.fst.getD (Int.toNat (0:Int)) []).getD (Int.toNat (1:Int)) false else false)==true)=true->inX (0:Int) y.fst.length)/\((true&&(bif bif y.snd==0 then(y.fst.getD (Int.toNat (0:Int)) []).getD (Int.toNat (0:Int)) false else false then !(y.fst.getD (Int.toNat (0:Int)) []).getD (Int.toNat (1:Int)) false else false)==true)=true->inX (2:Int) (y.fst.getD (Int.toNat (0:Int)) []).length)/\LQ (Ac (bif bif bif bif y.snd==0 then(y.fst.getD (Int.toNat (0:Int)) []).getD (Int.toNat (0:Int)) false else false then !(y.fst.getD (Int.toNat (0:Int)) []).getD (Int.toNat (1:Int)) false else false then !(y.fst.getD (Int.toNat (0:Int)) []).getD (Int.toNat (2:Int)) false else false then y_1==44 else false)) (Ac b))):=by kernel_rfl
theorem AgB (r:Int)(g:FuncId)(l:List D.Expr):(fc C5 BU Tryz.f63 [] (Aa r)).goal (St.init [] [A7 true l,.fn (.func g) []]) =
  (Aq (fc C5 BU Tryz.f63 [] (Aa r)) [1,0,1,0] (Av [(0,A7 true l),(1,VV.fn (Fn.func g) []),(7,Aa (↑l.length:Int)),(8,Aa 0)] [])):=by kernel_rfl
theorem Agx (r:Int)(g:FuncId)(l:List D.Proc):(fc C5 BU Tryz.f65 [] (Aa r)).goal (St.init [] [AM true l,.fn (.func g) []]) =
  (Aq (fc C5 BU Tryz.f65 [] (Aa r)) [1,0,1,0] (Av [(0,AM true l),(1,VV.fn (Fn.func g) []),(7,Aa (↑l.length:Int)),(8,Aa 0)] [])):=by kernel_rfl
theorem Agw (r:Int)(g:FuncId)(c:List VV)(l:List D.Proc):(fc C5 BU Tryz.f65 [] (Aa r)).goal (St.init [] [AM true l,.fn (.func g) [.tp c]]) =
  (Aq (fc C5 BU Tryz.f65 [] (Aa r)) [1,0,1,0] (Av [(0,AM true l),(1,VV.fn (Fn.func g) [VV.tp c]),(7,Aa (↑l.length:Int)),(8,Aa 0)] [])):=by kernel_rfl
theorem Agz (r:Int)(g:FuncId)(l:List D.Loc):(fc C5 BU Tryz.f64 [] (Aa r)).goal (St.init [] [Cm true l,.fn (.func g) []]) =
  (Aq (fc C5 BU Tryz.f64 [] (Aa r)) [1,0,1,0] (Av [(0,Cm true l),(1,VV.fn (Fn.func g) []),(7,Aa (↑l.length:Int)),(8,Aa 0)] [])):=by kernel_rfl
theorem Agy (r:Int)(g:FuncId)(c:List VV)(l:List Nx):(fc C5 BU Tryz.f51 [] (Aa r)).goal (St.init [] [BC true l,.fn (.func g) [.tp c]]) =
  (Aq (fc C5 BU Tryz.f51 [] (Aa r)) [1,0,1,0] (Av [(0,BC true l),(1,VV.fn (Fn.func g) [VV.tp c]),(7,Aa (↑l.length:Int)),(8,Aa 0)] [])):=by kernel_rfl
theorem Agv (r:Int)(g:FuncId)(l:List D.Shape):(fc C5 BU Tryz.f120 [] (Aa r)).goal (St.init [] [AX true l,.fn (.func g) []]) =
  (Aq (fc C5 BU Tryz.f120 [] (Aa r)) [1,0,1,0] (Av [(0,AX true l),(1,VV.fn (Fn.func g) []),(7,Aa (↑l.length:Int)),(8,Aa 0)] [])):=by kernel_rfl
theorem Agt (r:Int)(g:FuncId)(c:List VV)(l:List (List D.Trans)):(fc C5 BU Tryz.f121 [] (Aa r)).goal (St.init [] [AW false l,.fn (.func g) [.tp c]]) =
  (Aq (fc C5 BU Tryz.f121 [] (Aa r)) [1,0,1,0] (Av [(0,AW false l),(1,VV.fn (Fn.func g) [VV.tp c]),(7,Aa (↑l.length:Int)),(8,Aa 0)] [])):=by kernel_rfl
theorem Agu (r:Int)(g:FuncId)(l:List D.Trans):(fc C5 BU Tryz.f122 [] (Aa r)).goal (St.init [] [As true l,.fn (.func g) []]) =
  (Aq (fc C5 BU Tryz.f122 [] (Aa r)) [1,0,1,0] (Av [(0,As true l),(1,VV.fn (Fn.func g) []),(7,Aa (↑l.length:Int)),(8,Aa 0)] [])):=by kernel_rfl
theorem AgC (r:Int)(g:FuncId)(c:List VV)(l:List D.Dim):(fc C5 BU Tryz.f118 [] (Aa r)).goal (St.init [] [BK true l,.fn (.func g) [.tp c]]) =
  (Aq (fc C5 BU Tryz.f118 [] (Aa r)) [1,0,1,0] (Av [(0,BK true l),(1,VV.fn (Fn.func g) [VV.tp c]),(7,Aa (↑l.length:Int)),(8,Aa 0)] [])):=by kernel_rfl
theorem AgA (r:Int)(g:FuncId)(c:List VV)(l:List Int):(fc C5 BU Tryz.f119 [] (Aa r)).goal (St.init [] [Ad true l,.fn (.func g) [.tp c]]) =
  (Aq (fc C5 BU Tryz.f119 [] (Aa r)) [1,0,1,0] (Av [(0,Ad true l),(1,VV.fn (Fn.func g) [VV.tp c]),(7,Aa (↑l.length:Int)),(8,Aa 0)] [])):=by kernel_rfl
theorem Aep (r:Int)(g:FuncId)(l:List D.Expr)(n k:Int)(J:St->Prop):((fc C5 BU Tryz.f63 [] (Aa r)).loop [1,0,1,0] J).goal (Hi (A7 true l) (.fn (.func g) []) n k) =
  (BB (decide (k<n)) (inX k l.length/\∃ (y:Bool),VC g [VV.agg (AE (l.getD k.toNat default))] (Ac y)/\BB y (LQ (Aa k) (Aa r)) (J (Av [(0,A7 true l),(1,VV.fn (Fn.func g) []),(7,Aa n),(8,Aa (IntKind.i64.wrap (k+(1:Int))))] []))) (LQ (Aa (-1)) (Aa r))):=by kernel_rfl
theorem Aeh (r:Int)(g:FuncId)(l:List D.Proc)(n k:Int)(J:St->Prop):((fc C5 BU Tryz.f65 [] (Aa r)).loop [1,0,1,0] J).goal (Hi (AM true l) (.fn (.func g) []) n k) =
  (BB (decide (k<n)) (inX k l.length/\∃ (y:Bool),VC g [VV.agg (AO (l.getD k.toNat default))] (Ac y)/\BB y (LQ (Aa k) (Aa r)) (J (Av [(0,AM true l),(1,VV.fn (Fn.func g) []),(7,Aa n),(8,Aa (IntKind.i64.wrap (k+(1:Int))))] []))) (LQ (Aa (-1)) (Aa r))):=by kernel_rfl
theorem Aef (r:Int)(g:FuncId)(c:List VV)(l:List D.Proc)(n k:Int)(J:St->Prop):((fc C5 BU Tryz.f65 [] (Aa r)).loop [1,0,1,0] J).goal (Hi (AM true l) (.fn (.func g) [.tp c]) n k) =
  (BB (decide (k<n)) (inX k l.length/\∃ (y:Bool),VC g [VV.agg (AO (l.getD k.toNat default)),VV.tp c] (Ac y)/\BB y (LQ (Aa k) (Aa r)) (J (Av [(0,AM true l),(1,VV.fn (Fn.func g) [VV.tp c]),(7,Aa n),(8,Aa (IntKind.i64.wrap (k+(1:Int))))] []))) (LQ (Aa (-1)) (Aa r))):=by kernel_rfl
theorem Ael (r:Int)(g:FuncId)(l:List D.Loc)(n k:Int)(J:St->Prop):((fc C5 BU Tryz.f64 [] (Aa r)).loop [1,0,1,0] J).goal (Hi (Cm true l) (.fn (.func g) []) n k) =
  (BB (decide (k<n)) (inX k l.length/\∃ (y:Bool),VC g [VV.agg (Bf (l.getD k.toNat default))] (Ac y)/\BB y (LQ (Aa k) (Aa r)) (J (Av [(0,Cm true l),(1,VV.fn (Fn.func g) []),(7,Aa n),(8,Aa (IntKind.i64.wrap (k+(1:Int))))] []))) (LQ (Aa (-1)) (Aa r))):=by kernel_rfl
theorem Aej (r:Int)(g:FuncId)(c:List VV)(l:List Nx)(n k:Int)(J:St->Prop):((fc C5 BU Tryz.f51 [] (Aa r)).loop [1,0,1,0] J).goal (Hi (BC true l) (.fn (.func g) [.tp c]) n k) =
  (BB (decide (k<n)) (inX k l.length/\∃ (y:Bool),VC g [VV.agg (CI (l.getD k.toNat default)),VV.tp c] (Ac y)/\BB y (LQ (Aa k) (Aa r)) (J (Av [(0,BC true l),(1,VV.fn (Fn.func g) [VV.tp c]),(7,Aa n),(8,Aa (IntKind.i64.wrap (k+(1:Int))))] []))) (LQ (Aa (-1)) (Aa r))):=by kernel_rfl
theorem Aed (r:Int)(g:FuncId)(l:List D.Shape)(n k:Int)(J:St->Prop):((fc C5 BU Tryz.f120 [] (Aa r)).loop [1,0,1,0] J).goal (Hi (AX true l) (.fn (.func g) []) n k) =
  (BB (decide (k<n)) (inX k l.length/\∃ (y:Bool),VC g [VV.agg (BZ (l.getD k.toNat default))] (Ac y)/\BB y (LQ (Aa k) (Aa r)) (J (Av [(0,AX true l),(1,VV.fn (Fn.func g) []),(7,Aa n),(8,Aa (IntKind.i64.wrap (k+(1:Int))))] []))) (LQ (Aa (-1)) (Aa r))):=by kernel_rfl
theorem Ad9 (r:Int)(g:FuncId)(c:List VV)(l:List (List D.Trans))(n k:Int)(J:St->Prop):((fc C5 BU Tryz.f121 [] (Aa r)).loop [1,0,1,0] J).goal (Hi (AW false l) (.fn (.func g) [.tp c]) n k) =
  (BB (decide (k<n)) (inX k l.length/\∃ (y:Bool),VC g [As true (l.getD k.toNat []),VV.tp c] (Ac y)/\BB y (LQ (Aa k) (Aa r)) (J (Av [(0,AW false l),(1,VV.fn (Fn.func g) [VV.tp c]),(7,Aa n),(8,Aa (IntKind.i64.wrap (k+(1:Int))))] []))) (LQ (Aa (-1)) (Aa r))):=by kernel_rfl
theorem Aeb (r:Int)(g:FuncId)(l:List D.Trans)(n k:Int)(J:St->Prop):((fc C5 BU Tryz.f122 [] (Aa r)).loop [1,0,1,0] J).goal (Hi (As true l) (.fn (.func g) []) n k) =
  (BB (decide (k<n)) (inX k l.length/\∃ (y:Bool),VC g [VV.agg (Gb (l.getD k.toNat default))] (Ac y)/\BB y (LQ (Aa k) (Aa r)) (J (Av [(0,As true l),(1,VV.fn (Fn.func g) []),(7,Aa n),(8,Aa (IntKind.i64.wrap (k+(1:Int))))] []))) (LQ (Aa (-1)) (Aa r))):=by kernel_rfl
theorem Aer (r:Int)(g:FuncId)(c:List VV)(l:List D.Dim)(n k:Int)(J:St->Prop):((fc C5 BU Tryz.f118 [] (Aa r)).loop [1,0,1,0] J).goal (Hi (BK true l) (.fn (.func g) [.tp c]) n k) =
  (BB (decide (k<n)) (inX k l.length/\∃ (y:Bool),VC g [VV.agg (JO (l.getD k.toNat default)),VV.tp c] (Ac y)/\BB y (LQ (Aa k) (Aa r)) (J (Av [(0,BK true l),(1,VV.fn (Fn.func g) [VV.tp c]),(7,Aa n),(8,Aa (IntKind.i64.wrap (k+(1:Int))))] []))) (LQ (Aa (-1)) (Aa r))):=by kernel_rfl
theorem Aen (r:Int)(g:FuncId)(c:List VV)(l:List Int)(n k:Int)(J:St->Prop):((fc C5 BU Tryz.f119 [] (Aa r)).loop [1,0,1,0] J).goal (Hi (Ad true l) (.fn (.func g) [.tp c]) n k) =
  (BB (decide (k<n)) (inX k l.length/\∃ (y:Bool),VC g [Aa (l.getD k.toNat 0),VV.tp c] (Ac y)/\BB y (LQ (Aa k) (Aa r)) (J (Av [(0,Ad true l),(1,VV.fn (Fn.func g) [VV.tp c]),(7,Aa n),(8,Aa (IntKind.i64.wrap (k+(1:Int))))] []))) (LQ (Aa (-1)) (Aa r))):=by kernel_rfl
theorem Abk (b:Bool)(m:D.Model)(s:D.Stmt)(c:List VV):((fc Ce PC Tryz.f49 [] (Ac b)).cut Ai8).goal (Ahs m s [.fn (.func 72) [.tp (Af m),.tp c]]) =
  (BB (s.Kind==1) (∃ (y:Bool),VC 72 [Aa s.A,tpM m,VV.tp c] (Ac y)/\LQ (Ac y) (Ac b)) (BB (s.Kind==2) (∃ (y:Bool),VC 72 [Aa s.A,tpM m,VV.tp c] (Ac y)/\∃ (y_1:Bool),((true&&y==true)=true->VC 72 [Aa s.B,tpM m,VV.tp c] (Ac y_1))/\LQ (Ac (bif y then y_1 else false)) (Ac b)) (BB (s.Kind==4) (∃ (y:Bool),VC 75 [Ad true s.Args,VV.fn (Fn.func (nat_lit 76)) [VV.tp [VV.fn (Fn.func (nat_lit 72)) [tpM m,VV.tp c]]]] (Ac y)/\LQ (Ac !y) (Ac b)) (LQ (Ac (bif s.Kind==8 then true else s.Kind==7)) (Ac b))))):=by kernel_rfl
theorem Xh (b:Bool)(m:D.Model)(p:D.Proc)(w:List D.Trans)(k:Int)(J:St->Prop):((fc Ce MR Tryz.f21 [] (Ac b)).loop [1,1,0,1,0] J).goal (Af9 m p w k) =
  (BB (decide (k<(↑w.length:Int))) (inX k w.length/\∃ (y:Bool),VC 49 [VV.agg (Af m),VV.agg (Ar (w.getD k.toNat default).S)] (Ac y)/\((true&&(!y)==false)=true->inX (w.getD k.toNat default).To p.Locs.length)/\∃ (y_1:Bool),((true&&(!y)==false)=true->VC 48 [VV.agg (Bf (p.Locs.getD (w.getD k.toNat default).To.toNat default))] (Ac y_1))/\((true&&(bif !y then true else y_1)==false)=true->inX (w.getD k.toNat default).To p.Locs.length)/\∃ (y_2:Bool),((true&&(bif !y then true else y_1)==false)=true->VC 50 [VV.agg (Af m),VV.agg (Bf (p.Locs.getD (w.getD k.toNat default).To.toNat default))] (Ac y_2))/\BB (bif bif !y then true else y_1 then true else y_2) (LQ (Ac false) (Ac b)) (J (Af9 m p w (IntKind.i64.wrap (k+(1:Int)))))) (LQ (Ac true) (Ac b))):=by kernel_rfl
theorem Xt (r:List (List Bool) × Int)(m:D.Model)(out:List (List Bool))(k:Int)(J:St->Prop):((fc Ce HH Tryz.f13 [] (.tup [C0 true r.1,Aa r.2])).loop [1,1,1,0,1,0] J).goal (AiG m out k) =
  (BB (decide (k<(↑m.Procs.length:Int))) (inX k m.Procs.length/\Aq ((fc Ce HH Tryz.f13 [] (VV.tup [C0 true r.fst,Aa r.snd])).loop [1,1,1,0,1,0] J) [1,1,0,0,1,1,0,1,0] (Av [(1,VV.bp 0 0),(5,VV.ow 1 0 out.length),(7,VV.bp 2 0),(8,VV.nl),(17,DJ m.Procs),(18,Aa (↑m.Procs.length:Int)),(19,Aa k),(24,HA (m.Procs.getD k.toNat default).Locs),(25,Aa (↑(m.Procs.getD k.toNat default).Locs.length:Int)),(26,Aa 0)] [Ob.box (Ck m),Ob.arr true 0 out.length 1 (H1 out),Ob.box (Fq (m.Procs.getD k.toNat default))])) (LQ (VV.tup [C0 true out,Aa 0]) (VV.tup [C0 true r.fst,Aa r.snd]))):=by kernel_rfl
theorem Xs (r:List (List Bool) × Int)(m:D.Model)(out:List (List Bool))(k:Int)(p:D.Proc)(row:List Bool)(j:Int)(J J2:St->Prop):(((fc Ce HH Tryz.f13 [] (.tup [C0 true r.1,Aa r.2])).loop [1,1,1,0,1,0] J).loop [1,1,0,0,1,1,0,1,0] J2).goal (AiF m out k p row j) =
  (BB (decide (j<(↑p.Locs.length:Int))) (inX j p.Locs.length/\∃ (y:Bool),VC 21 [VV.agg (Ck m),VV.agg (Fq p),VV.agg (Po (p.Locs.getD j.toNat default))] (Ac y)/\(row.length+1)*1<=140737488355328/\J2 (Av [(1,VV.bp 0 0),(5,VV.ow 1 0 out.length),(7,VV.bp 2 0),(8,VV.ow 3 0 (row.length+1)),(17,DJ m.Procs),(18,Aa (↑m.Procs.length:Int)),(19,Aa k),(24,HA p.Locs),(25,Aa (↑p.Locs.length:Int)),(26,Aa (IntKind.i64.wrap (j+(1:Int))))] [Ob.box (Ck m),Ob.arr true 0 out.length 1 (H1 out),Ob.box (Fq p),Ob.arr true 0 (row.length+1) 1 fun(i:Nat)=>bif i.blt row.length then[Ac (row.getD i false)] else(fun(i:Nat)=>List.take 1 (List.drop (i*1) [Ac y])) (i - row.length)])) ((out.length+1)*24<=140737488355328/\J (Av [(1,VV.bp 0 0),(5,VV.ow 1 0 (out.length+1)),(17,DJ m.Procs),(18,Aa (↑m.Procs.length:Int)),(19,Aa (IntKind.i64.wrap (k+(1:Int))))] [Ob.box (Ck m),Ob.arr true 0 (out.length+1) 1 fun(i:Nat)=>bif i.blt out.length then H1 out i else(fun(i:Nat)=>(List.map (fun(x:List VV × List Nat)=>x.fst) [(List.map (fun(x:VV × List Nat)=>x.fst) [(VV.sl true row.length 1 (Qw row),[3])],List.flatMap (fun(x:VV × List Nat)=>x.snd) [(VV.sl true row.length 1 (Qw row),[3])])]).getD i []) (i - out.length)]))):=by kernel_rfl
theorem Un (r:List Int × Int)(m:D.Model)(l:List Nx)(ps:List D.Process)(out:List Int)(k:Int)(J:St->Prop):((fc Ce KU Tryz.f8 [] (.tup [Ad true r.1,Aa r.2])).loop [1,1,1,1,0,1,0] J).goal (AhI m l ps out k) =
  (BB (decide (k<(↑ps.length:Int))) (inX k ps.length/\inX (ps.getD k.toNat default).Type_ m.Procs.length/\inX (ps.getD k.toNat default).Loc (m.Procs.getD (ps.getD k.toNat default).Type_.toNat default).Locs.length/\∃ (y:Bool),VC 21 [VV.agg (Af m),VV.agg (AO (m.Procs.getD (ps.getD k.toNat default).Type_.toNat default)),VV.agg (Bf ((m.Procs.getD (ps.getD k.toNat default).Type_.toNat default).Locs.getD (ps.getD k.toNat default).Loc.toNat default))] (Ac y)/\∃ (y_1:Bool),((true&&y==true)=true->VC 22 [BC true l,VV.fn (Fn.func (nat_lit 23)) [VV.tp [Aa k]]] (Ac y_1))/\BB (bif y then y_1 else false) ((out.length+1)*8<=140737488355328/\J (Av [(2,BC true l),(3,VV.bp 0 0),(10,VV.ow 1 0 (out.length+1)),(26,Ay true ps),(27,Aa (↑ps.length:Int)),(28,Aa (IntKind.i64.wrap (k+(1:Int))))] [Ob.box (Af m),Ob.arr true 0 (out.length+1) 1 fun(i:Nat)=>bif i.blt out.length then[Aa (out.getD i 0)] else(fun(i:Nat)=>List.take 1 (List.drop (i*1) [Aa k])) (i - out.length)])) (J (AhI m l ps out (IntKind.i64.wrap (k+(1:Int)))))) (LQ (VV.tup [Ad true out,Aa 0]) (VV.tup [Ad true r.fst,Aa r.snd]))):=by kernel_rfl
theorem AaC (r:Int)(m:D.Model)(k:Int)(J:St->Prop):((fc Ce E6 Tryz.f5 [] (Aa r)).loop [1,1,1,1,0,1,0] J).goal (YD m k) =
  (BB (decide (k<(↑m.Procs.length:Int))) (inX k m.Procs.length/\inX (0:Int) m.Procs.length/\BB ((m.Procs.getD k.toNat default).Prio != (m.Procs.getD (Int.toNat (0:Int)) default).Prio) (LQ (Aa 44) (Aa r)) (J (YD m (IntKind.i64.wrap (k+(1:Int)))))) (Aq (fc Ce E6 Tryz.f5 [] (Aa r)) [1,1,1,1,1,1,0,1,0] (M0 m false 6 (0:Int)))):=by kernel_rfl
theorem AaB (r:Int)(m:D.Model)(t:Bool)(k:Int)(J:St->Prop):((fc Ce E6 Tryz.f5 [] (Aa r)).loop [1,1,1,1,1,1,0,1,0] J).goal (M0 m t 6 k) =
  (BB (decide (k<(↑m.Exprs.length:Int))) (inX k m.Exprs.length/\BB (bif bif (m.Exprs.getD k.toNat default).Op==32 then true else bif decide ((m.Exprs.getD k.toNat default).Op>=36) then decide ((m.Exprs.getD k.toNat default).Op<=38) else false then true else bif (m.Exprs.getD k.toNat default).Op==2 then(m.Exprs.getD k.toNat default).V.Scope==2 else false) (LQ (Aa 44) (Aa r)) (J (M0 m (bif t then true else(m.Exprs.getD k.toNat default).Op==35) 6 (IntKind.i64.wrap (k+(1:Int)))))) (Aq (fc Ce E6 Tryz.f5 [] (Aa r)) [1,1,1,1,1,1,1,0,1,0] (M0 m t 8 (0:Int)))):=by kernel_rfl
theorem AaA (r:Int)(m:D.Model)(t:Bool)(k:Int)(J:St->Prop):((fc Ce E6 Tryz.f5 [] (Aa r)).loop [1,1,1,1,1,1,1,0,1,0] J).goal (M0 m t 8 k) =
  (BB (decide (k<(↑m.Procs.length:Int))) (Aq ((fc Ce E6 Tryz.f5 [] (Aa r)).loop [1,1,1,1,1,1,1,0,1,0] J) [1,0,0,1,0] (YC m t k (0:Int))) (LQ (Aa 0) (Aa r))):=by kernel_rfl
theorem Aaz (r:Int)(m:D.Model)(t:Bool)(k j:Int)(J J2:St->Prop):(((fc Ce E6 Tryz.f5 [] (Aa r)).loop [1,1,1,1,1,1,1,0,1,0] J).loop [1,0,0,1,0] J2).goal (YC m t k j) =
  (inX k m.Procs.length/\BB (decide (j<(↑(m.Procs.getD k.toNat default).Locs.length:Int))) (((true&&t==true)=true->inX k m.Procs.length)/\((true&&t==true)=true->inX j (m.Procs.getD k.toNat default).Locs.length)/\BB (bif t then((m.Procs.getD k.toNat default).Locs.getD j.toNat default).Atomic else false) (LQ (Aa 44) (Aa r)) (J2 (YC m t k (IntKind.i64.wrap (j+(1:Int)))))) (J (M0 m t 8 (IntKind.i64.wrap (k+(1:Int)))))):=by kernel_rfl
theorem AbG (b:Bool)(w:Wy)(l:List Wy)(k:Int)(J:St->Prop):((fc Ce PD Tryz.f10 [] (Ac b)).loop [1,1,0,1,0] J).goal (YQ w l k) =
  (BB (decide (k<(↑l.length:Int))) (inX k l.length/\BB ((l.getD k.toNat default).Esc==w.Esc&&((l.getD k.toNat default).Way==w.Way&&((l.getD k.toNat default).With==w.With&&((l.getD k.toNat default).WithEsc==w.WithEsc&&((l.getD k.toNat default).WithWay==w.WithWay&&((l.getD k.toNat default).Err==w.Err&&true)))))) (LQ (Ac true) (Ac b)) (J (YQ w l (IntKind.i64.wrap (k+(1:Int)))))) (LQ (Ac false) (Ac b))):=by kernel_rfl
end Go.Proofs.YtlhajmkjfcbhnaaGreat
namespace Go.Proofs.YtlhajmkjfcbhnaaGreat
open Go.RowKit
def KT : Ann:={ keep:=fun
  | [0,1,0,1,1,1,1]=>[2,6,7,8,9]
  | _=>[] }
def MN : Ann:={ keep:=fun
  | [0,1,0,1,1]=>[0,1,5]
  | _=>[] }
def KO : Ann:={ keep:=fun
  | [0,1,0,1,1]=>[2,3,5]
  | _=>[] }
def HD : Ann:={ keep:=fun
  | [0,1,0,1,1,1]=>[2,3,6]
  | [0,1,0,1,1,1,1]=>[2,3,7]
  | _=>[] }
def MO : Ann:={ keep:=fun
  | [0,1,0,1]=>[0,1,5]
  | _=>[] }
def Jj : Ann:={ keep:=fun
  | [0,1,0,1,1,1]=>[2,3,4,5,8,10,11]
  | [0,1,0,1,1,1,1,1,1,1]=>[3,5,8,10,13,14,15]
  | _=>[] }
def KS : Ann:={ keep:=fun
  | [0,1,0,1]=>[2,3,4,6,8]
  | _=>[] }
def PA : Ann:={ keep:=fun
  | [0,1,0,1,1,1]=>[2,3,4,5,9,10,11]
  | _=>[] }
def L0 : Ann:={ keep:=fun
  | [0,1,0,1,1]=>[2,3,4,6,9,10]
  | [0,0,1,1,1,1,1,0,0,1,0,0,1,0,1,1]=>[2,3,4,6,9,10,13,14,15]
  | _=>[] }
def EE : Ann:={ keep:=fun
  | [0,1,0,1,1,1,1,1,1]=>[2,3,5,6,7,8,9]
  | [0,1,1,1,0,0,1,0,0,1,0,1,1,1,1,1,1]=>[2,3,5,6,7,8,9,10,11,12]
  | _=>[] }
def DS : Ann:={ keep:=fun
  | [0,1,0,1,1,1]=>[1,2,3,4]
  | [0,1,0,1,0,0,1,0,0,1,0,1,1,1]=>[1,2,3,4,5,6]
  | [0,1,0,1,1,1,1]=>[1,2,3,8]
  | _=>[] }
def SB : List VV:=[Aa 0,.nl]
def Acq : List VV:=[Aa 0,Aa 0,Aa 0,.nl]
def Ahr (s:D.State)(cs:List D.Chan)(k:Int):St:=Av [(1,.bp 0 0),(2,.bp 1 0),(3,.bp 2 0),(4,Aa k)] [.box (Ae s),.box DU,.box (AQ s (.ow 3 0 s.Globals.length) (.ow 4 0 cs.length) .nl),obG s,.arr true 0 cs.length 2 (CL cs)]
def Ahq (s:D.State)(cs:List D.Chan)(k:Int)(c:Int)(q:List (List Int))(j:Int):St:=Av [(1,.bp 0 0),(2,.bp 1 0),(3,.bp 2 0),(4,Aa k),(5,.bp 5 0),(6,Aa j)] [.box (Ae s),.box DU,.box (AQ s (.ow 3 0 s.Globals.length) (.ow 4 0 cs.length) .nl),obG s,.arr true 0 cs.length 2 (CL cs),.box [Aa c,.ow 6 0 q.length],.arr true 0 q.length 1 (Ed q)]
def Ql (s:D.State)(cs:List D.Chan)(ps:List D.Process)(k:Int):St:=Av [(1,.bp 0 0),(2,.bp 1 0),(3,.bp 2 0),(8,Aa k)] [.box (Ae s),.box DU,.box (AQ s (.ow 3 0 s.Globals.length) (.ow 4 0 cs.length) (.ow 5 0 ps.length)),obG s,.arr true 0 cs.length 2 (CL cs),.arr true 0 ps.length 4 (C9 ps)]
def YN (m:D.Model)(typ:Int)(args l:List Int)(k:Int):St:=Av [(2,Ad true args),(6,.bp 0 0),(7,.bp 1 0),(8,.bp 2 0),(9,Aa k)] [.box Acq,.box (AO (AN m typ)),.box [Aa typ,Aa (AN m typ).Start,Aa (AN m typ).Prio,.ow 3 0 l.length],.arr true 0 l.length 1 (AJ l)]
def YF (x y:D.Chan)(k:Int):St:=Av [(2,.bp 0 0),(3,.bp 1 0),(5,Aa k)] [.box (Aw x),.box (Aw y)]
def M2 (x y:D.State)(t:Nat)(k:Int):St:=Av [(2,.bp 0 0),(3,.bp 1 0),(t,Aa k)] [.box (Ae x),.box (Ae y)]
def YH (s:D.Shape)(c:D.Chan)(m:List Int)(so:Bool)(x:List Int)(k:Int):St:=Av [(2,Ad true m),(3,Ac so),(4,.bp 0 0),(5,.bp 1 0),(8,.bp 2 0),(10,.ow 3 0 x.length),(11,Aa k)] [.box (BZ s),.box (Aw c),.box SB,.arr true 0 x.length 1 (AJ x)]
def Tg (c:D.Chan)(so:Bool)(x:List Int)(out:List (List Int))(dn:Bool)(k:Int):St:=Av [(3,Ac so),(5,.bp 0 0),(8,.bp 1 0),(10,Ad true x),(13,.bp 2 0),(14,Ac dn),(15,Aa k)] [.box (Aw c),.box SB,.box [Aa c.Shape,.ow 3 0 out.length],.arr true 0 out.length 1 (Ed out)]
def YL (e:D.Env)(s:D.Stmt)(m:List Int)(k:Int):St:=Av [(2,Ad true m),(3,.bp 0 0),(4,.bp 1 0),(6,.bp 2 0),(8,Aa k)] [.box (Ah e),.box (Ar s),.box DU]
def Th (m:D.Model)(s:D.State)(l:List Bool)(t:Bool)(out:List Int)(most k:Int):St:=Av [(2,AR true l),(3,Ac t),(4,.bp 0 0),(5,.bp 1 0),(9,.ow 2 0 out.length),(10,Aa most),(11,Aa k)] [.box (Af m),.box (Ae s),.arr true 0 out.length 1 (AJ out)]
def AcU (m:D.Model)(s:D.State)(pid:Int)(t:ByteArray)(n:Int):St:=Av [(2,Aa pid),(3,.bp 0 0),(4,.bp 1 0),(6,.bp 2 0),(9,AS t),(10,Aa n)] [.box (Af m),.box (Ae s),.box DU]
def YI (m:D.Model)(s:D.State)(pid:Int)(t:ByteArray)(n:Int)(e:D.Env)(w:List Wy)(k:Int):St:=Av [(2,Aa pid),(3,.bp 0 0),(4,.bp 1 0),(6,.bp 2 0),(9,AS t),(10,Aa n),(13,.bp 3 0),(14,BY true w),(15,Aa k)] [.box (Af m),.box (Ae s),.box DU,.box (Ah e)]
def YE (m:D.Model)(s:D.State)(l:List Bool)(t:Bool)(q:List Int)(out:List Nx)(k:Int):St:=Av [(2,.bp 0 0),(3,.bp 1 0),(5,AR true l),(6,Ac t),(7,Ad true q),(8,.ow 2 0 out.length),(9,Aa k)] [.box (Af m),.box (Ae s),.arr true 0 out.length 15 (HY out)]
def AcS (m:D.Model)(s:D.State)(l:List Bool)(t:Bool)(q:List Int)(out:List Nx)(k:Int)(e:D.Env)(w:List Wy)(j:Int):St:=Av [(2,.bp 0 0),(3,.bp 1 0),(5,AR true l),(6,Ac t),(7,Ad true q),(8,.ow 2 0 out.length),(9,Aa k),(10,.bp 3 0),(11,BY true w),(12,Aa j)] [.box (Af m),.box (Ae s),.arr true 0 out.length 15 (HY out),.box (Ah e)]
def XF : List Nat:=[1,1,1,1,1,1,1,1,1,1,1]
def Ae8 : List Nat:=[1,1,0,1,0,1,1,1,1,1,1,1,1,1,1,1,1,1,0,1,1,1]
def Fu : Ann:={ cut:=(fun | [1,1,1,1,1,1,1,1,1,1,1]=>true | _=>false),keep:=fun
  | [1,1,1,1,1,1,1,1,1,1,1]=>[2,3,4,12]
  | _=>[] }
def HF : Ann:={ cut:=(fun | [1,1,1,0,1,1,1,1,1,1,1,1,1,1,1,1,1,0,1,0,1,1]=>true | _=>false),keep:=fun
  | [1,1,1,0,1,1,1,1,1,1,1,1,1,1,1,1,1,0,1,0,1,1]=>[3,4,6,22]
  | _=>[] }
def Aho (e:D.Env)(s:D.Stmt)(m:List Int):St:=Av [(2,.bp 0 0),(3,.bp 1 0),(4,.bp 2 0),(12,Ad true m)] [.box (Ah e),.box (Ar s),.box DU]
def Ahp (e:D.Env)(s:D.Stmt):St:=Av [(3,.bp 0 0),(4,.bp 1 0),(6,.bp 2 0),(22,.bp 3 0)] [.box (Ah e),.box (Ar s),.box DU,.box (Ae e.S)]
set_option maxRecDepth 100000
theorem Xa (r:D.Process)(m:D.Model)(typ:Int)(args:List Int):(fc B2 KT Tryz.f123 [] (.agg (AB r))).goal (St.init [] [.agg (Af m),Aa typ,Ad true args]) =
  (inX typ m.Procs.length/\(m.Procs.getD typ.toNat default).Init.length*8<=140737488355328/\(∀ (i:Nat),i<(m.Procs.getD typ.toNat default).Init.length->(AJ (m.Procs.getD typ.toNat default).Init i).all VV.mem1=true)/\Aq (fc B2 KT Tryz.f123 [] (VV.agg (AB r))) [1,1,1,1,0,1,0] (Av [(2,Ad true args),(6,VV.bp 0 0),(7,VV.bp 1 0),(8,VV.bp 2 0),(9,Aa 0)] [Ob.box [Aa 0,Aa 0,Aa 0,VV.nl],Ob.box (AO (m.Procs.getD typ.toNat default)),Ob.box [Aa typ,Aa (m.Procs.getD typ.toNat default).Start,Aa (m.Procs.getD typ.toNat default).Prio,VV.ow 3 0 (m.Procs.getD typ.toNat default).Init.length],Ob.arr true 0 (m.Procs.getD typ.toNat default).Init.length 1 (AJ (m.Procs.getD typ.toNat default).Init)])):=by kernel_rfl
theorem AaY (b:Bool)(x y:List Int):(fc B2 MN Tryz.f25 [] (Ac b)).goal (St.init [] [Ad true x,Ad true y]) =
  (BB ((↑x.length:Int) != (↑y.length:Int)) (LQ (Ac false) (Ac b)) (Aq (fc B2 MN Tryz.f25 [] (Ac b)) [1,1,0,1,0] (IU x y (0:Int)))):=by kernel_rfl
theorem WB (b:Bool)(x y:D.Chan):(fc B2 KO Tryz.f26 [] (Ac b)).goal (St.init [] [.agg (Aw x),.agg (Aw y)]) =
  (BB (bif x.Shape != y.Shape then true else(↑x.Queue.length:Int) != (↑y.Queue.length:Int)) (LQ (Ac false) (Ac b)) (Aq (fc B2 KO Tryz.f26 [] (Ac b)) [1,1,0,1,0] (YF x y (0:Int)))):=by kernel_rfl
theorem AaO (b:Bool)(x y:D.State):(fc B2 HD Tryz.f11 [] (Ac b)).goal (St.init [] [.agg (Ae x),.agg (Ae y)]) =
  (∃ (y_1:Bool),VC 25 [Ad true x.Globals,Ad true y.Globals] (Ac y_1)/\BB (bif bif bif bif bif !y_1 then true else x.Last != y.Last then true else x.Alone != y.Alone then true else x.Claim != y.Claim then true else(↑x.Chans.length:Int) != (↑y.Chans.length:Int) then true else(↑x.Procs.length:Int) != (↑y.Procs.length:Int)) (LQ (Ac false) (Ac b)) (Aq (fc B2 HD Tryz.f11 [] (Ac b)) [1,1,1,0,1,0] (M2 x y 6 (0:Int)))):=by kernel_rfl
theorem Aa1 (b:Bool)(x y:List Int):(fc B2 MO Tryz.f156 [] (Ac b)).goal (St.init [] [Ad true x,Ad true y]) =
  (Aq (fc B2 MO Tryz.f156 [] (Ac b)) [1,0,1,0] (IU x y (0:Int))):=by kernel_rfl
theorem AdC (r:D.Chan × Int)(s:D.Shape)(c:D.Chan)(m:List Int)(so:Bool):(fc B2 Jj Tryz.f127 [] (.tup [.agg (Aw r.1),Aa r.2])).goal (St.init [] [.agg (BZ s),.agg (Aw c),Ad true m,Ac so]) =
  (BB ((↑m.length:Int) != (↑s.Fields.length:Int)) (LQ (VV.tup [VV.agg [Aa 0,VV.nl],Aa 42]) (VV.tup [VV.agg (Aw r.fst),Aa r.snd])) (Aq (fc B2 Jj Tryz.f127 [] (VV.tup [VV.agg (Aw r.fst),Aa r.snd])) [1,1,1,0,1,0] (Av [(2,Ad true m),(3,Ac so),(4,VV.bp 0 0),(5,VV.bp 1 0),(8,VV.bp 2 0),(10,VV.nl),(11,Aa 0)] [Ob.box (BZ s),Ob.box (Aw c),Ob.box [Aa 0,VV.nl]]))):=by kernel_rfl
theorem AaG (r:D.Chan × List Int × Int)(c:D.Chan)(n:Int):(fc B2 A5 Tryz.f128 [] (.tup [.agg (Aw r.1),Ad true r.2.1,Aa r.2.2])).goal (St.init [] [.agg (Aw c),Aa n]) =
  (BB (bif decide (n<0) then true else decide (n>=(↑c.Queue.length:Int))) (LQ (VV.tup [VV.agg [Aa 0,VV.nl],VV.nl,Aa 46]) (VV.tup [VV.agg (Aw r.fst),Ad true r.snd.fst,Aa r.snd.snd])) (((0:Int)<=(0:Int)/\(0:Int)<=n/\n<=(↑c.Queue.length:Int))/\(n - (0:Int)).toNat*24<=140737488355328/\(∀ (i:Nat),i<(n - (0:Int)).toNat->((fun(i:Nat)=>Ed c.Queue (Int.toNat (0:Int)+i)) i).all VV.mem1=true)/\((0:Int)<=IntKind.i64.wrap (n+(1:Int))/\IntKind.i64.wrap (n+(1:Int))<=(↑c.Queue.length:Int)/\(↑c.Queue.length:Int)<=(↑c.Queue.length:Int))/\((n - (0:Int)).toNat+((↑c.Queue.length:Int) - IntKind.i64.wrap (n+(1:Int))).toNat)*24<=140737488355328/\(∀ (i:Nat),i<((↑c.Queue.length:Int) - IntKind.i64.wrap (n+(1:Int))).toNat->((fun(i:Nat)=>Ed c.Queue ((IntKind.i64.wrap (n+(1:Int))).toNat+i)) i).all VV.mem1=true)/\inX n c.Queue.length/\LQ (VV.tup [VV.agg [Aa c.Shape,VV.sl true ((n - (0:Int)).toNat+((↑c.Queue.length:Int) - IntKind.i64.wrap (n+(1:Int))).toNat) 1 fun(i:Nat)=>bif i.blt (n - (0:Int)).toNat then(fun(i:Nat)=>Ed c.Queue (Int.toNat (0:Int)+i)) i else(fun(i:Nat)=>Ed c.Queue ((IntKind.i64.wrap (n+(1:Int))).toNat+i)) (i - (n - (0:Int)).toNat)],Ad true (c.Queue.getD n.toNat []),Aa 0]) (VV.tup [VV.agg (Aw r.fst),Ad true r.snd.fst,Aa r.snd.snd]))):=by kernel_rfl
theorem WW (r:D.State × Int)(e:D.Env)(s:D.Stmt)(m:List Int):(fc B2 KS Tryz.f126 [] (.tup [.agg (Ae r.1),Aa r.2])).goal (St.init [] [.agg (Ah e),.agg (Ar s),Ad true m]) =
  (Aq (fc B2 KS Tryz.f126 [] (VV.tup [VV.agg (Ae r.fst),Aa r.snd])) [1,0,1,0] (YL e s m (0:Int))):=by kernel_rfl
theorem Aa8 (r:D.State × Int)(e:D.Env)(x:Int):(fc B2 A5 Tryz.f84 [] (.tup [.agg (Ae r.1),Aa r.2])).goal (St.init [] [.agg (Ah e),Aa x]) =
  (inX x e.M.Exprs.length/\∃ (y:List Int × Int),VC 86 [VV.agg (Ah e),Ad true (e.M.Exprs.getD x.toNat default).Args] (VV.tup [Ad true y.fst,Aa y.snd])/\BB (y.snd != 0) (LQ (VV.tup [VV.agg [VV.nl,VV.nl,VV.nl,Aa 0,Aa 0,Aa 0],Aa y.snd]) (VV.tup [VV.agg (Ae r.fst),Aa r.snd])) (∃ (y_1:D.State),Al Tryz.prog 52 [] [VV.agg (Ae e.S)] [obG y_1,obC y_1,obP y_1] (VV.agg (AQ y_1 (VV.ow 0 0 y_1.Globals.length) (VV.ow 1 0 y_1.Chans.length) (VV.ow 2 0 y_1.Procs.length)))/\inX x e.M.Exprs.length/\∃ (y_2:D.Process),VC 123 [VV.agg (Af e.M),Aa (e.M.Exprs.getD x.toNat default).N,Ad true y.fst] (VV.agg (AB y_2))/\(y_1.Procs.length+1)*48<=140737488355328/\LQ (VV.tup [VV.agg (KE y_1 (AV true y_1.Chans) (VV.sl true (y_1.Procs.length+1) 4 fun(i:Nat)=>bif i.blt y_1.Procs.length then[Aa (y_1.Procs.getD i default).Type_,Aa (y_1.Procs.getD i default).Loc,Aa (y_1.Procs.getD i default).Prio,Ad true (y_1.Procs.getD i default).Frame] else(fun(i:Nat)=>List.take 4 (List.drop (i*4) [Aa y_2.Type_,Aa y_2.Loc,Aa y_2.Prio,Ad true y_2.Frame])) (i - y_1.Procs.length))),Aa 0]) (VV.tup [VV.agg (Ae r.fst),Aa r.snd]))):=by kernel_rfl
theorem AdA (r:D.State × Int)(e:D.Env)(s:D.Stmt):(fc B2 A5 Tryz.f85 [] (.tup [.agg (Ae r.1),Aa r.2])).goal (St.init [] [.agg (Ah e),.agg (Ar s)]) =
  (∃ (y:Bool),VC 83 [VV.agg (Ah e),Aa s.B] (Ac y)/\BB y (∃ (y:D.State × Int),VC 84 [VV.agg (Ah e),Aa s.B] (VV.tup [VV.agg (Ae y.fst),Aa y.snd])/\BB (y.snd != 0) (LQ (VV.tup [VV.agg [VV.nl,VV.nl,VV.nl,Aa 0,Aa 0,Aa 0],Aa y.snd]) (VV.tup [VV.agg (Ae r.fst),Aa r.snd])) (∃ (y_1:D.State × Int),VC 90 [VV.agg [Az true e.M.Globals,Ad true e.M.Init,AX true e.M.Shapes,Ad true e.M.Chans,AM true e.M.Procs,Aa e.M.Claim,A7 true e.M.Exprs,Ad true y.fst.Globals,AV true y.fst.Chans,Ay true y.fst.Procs,Aa y.fst.Last,Aa y.fst.Alone,Aa y.fst.Claim,Aa e.Pid,Ac e.Timeout,AR true e.Able],Aa s.A,Aa (IntKind.i64.wrap ((↑y.fst.Procs.length:Int) - (1:Int)))] (VV.tup [VV.agg (Ae y_1.fst),Aa y_1.snd])/\LQ (VV.tup [VV.agg (Ae y_1.fst),Aa y_1.snd]) (VV.tup [VV.agg (Ae r.fst),Aa r.snd]))) (∃ (y:Int × Int),VC 67 [VV.agg (Ah e),Aa s.B] (vII y)/\BB (y.snd != 0) (LQ (VV.tup [VV.agg [VV.nl,VV.nl,VV.nl,Aa 0,Aa 0,Aa 0],Aa y.snd]) (VV.tup [VV.agg (Ae r.fst),Aa r.snd])) (∃ (y_1:D.State × Int),VC 90 [VV.agg (Ah e),Aa s.A,Aa y.fst] (VV.tup [VV.agg (Ae y_1.fst),Aa y_1.snd])/\LQ (VV.tup [VV.agg (Ae y_1.fst),Aa y_1.snd]) (VV.tup [VV.agg (Ae r.fst),Aa r.snd])))):=by kernel_rfl
theorem Wz (r:D.State × Int)(e:D.Env)(s:D.Stmt)(w:Wy):(fc B2 A5 Tryz.f88 [] (.tup [.agg (Ae r.1),Aa r.2])).goal (St.init [] [.agg (Ah e),.agg (Ar s),.agg (Bu w)]) =
  (∃ (y:Int × Int),VC 114 [VV.agg (Ah e),VV.agg (Ar s)] (vII y)/\BB (y.snd != 0) (LQ (VV.tup [VV.agg [VV.nl,VV.nl,VV.nl,Aa 0,Aa 0,Aa 0],Aa y.snd]) (VV.tup [VV.agg (Ae r.fst),Aa r.snd])) (∃ (y_1:List Int × Int),VC 125 [VV.agg (Ah e),VV.agg (Ar s),Aa y.fst] (VV.tup [Ad true y_1.fst,Aa y_1.snd])/\BB (y_1.snd != 0) (LQ (VV.tup [VV.agg [VV.nl,VV.nl,VV.nl,Aa 0,Aa 0,Aa 0],Aa y_1.snd]) (VV.tup [VV.agg (Ae r.fst),Aa r.snd])) (BB (decide (w.With>=0)) (∃ (y:D.Env),VC 54 [VV.agg (Ah e),Aa w.With] (VV.agg (Ah y))/\∃ (y_2:List D.Trans),VC 43 [VV.agg (Ah y),Aa w.WithEsc] (As true y_2)/\inX w.WithWay y_2.length/\∃ (y_3:D.State × Int),VC 126 [VV.agg (Ah y),VV.agg (Ar (y_2.getD w.WithWay.toNat default).S),Ad true y_1.fst] (VV.tup [VV.agg (Ae y_3.fst),Aa y_3.snd])/\LQ (VV.tup [VV.agg (Ae y_3.fst),Aa y_3.snd]) (VV.tup [VV.agg (Ae r.fst),Aa r.snd])) (∃ (y_2:D.State),Al Tryz.prog 52 [] [VV.agg (Ae e.S)] [obG y_2,obC y_2,obP y_2] (VV.agg (AQ y_2 (VV.ow 0 0 y_2.Globals.length) (VV.ow 1 0 y_2.Chans.length) (VV.ow 2 0 y_2.Procs.length)))/\inX (IntKind.i64.wrap (y.fst - (1:Int))) y_2.Chans.length/\inX (y_2.Chans.getD (IntKind.i64.wrap (y.fst - (1:Int))).toNat default).Shape e.M.Shapes.length/\inX (IntKind.i64.wrap (y.fst - (1:Int))) y_2.Chans.length/\∃ (y_3:D.Chan × Int),VC 127 [VV.agg (BZ (e.M.Shapes.getD (y_2.Chans.getD (IntKind.i64.wrap (y.fst - (1:Int))).toNat default).Shape.toNat default)),VV.agg (Aw (y_2.Chans.getD (IntKind.i64.wrap (y.fst - (1:Int))).toNat default)),Ad true y_1.fst,Ac (s.N==1)] (VV.tup [VV.agg (Aw y_3.fst),Aa y_3.snd])/\inX (IntKind.i64.wrap (y.fst - (1:Int))) y_2.Chans.length/\LQ (VV.tup [VV.agg (KE y_2 (VV.sl true y_2.Chans.length 2 fun(j:Nat)=>bif j.beq (IntKind.i64.wrap (y.fst - (1:Int))).toNat then[Aa y_3.fst.Shape,Gc true y_3.fst.Queue] else[Aa (y_2.Chans.getD j default).Shape,Gc true (y_2.Chans.getD j default).Queue]) (Ay true y_2.Procs)),Aa y_3.snd]) (VV.tup [VV.agg (Ae r.fst),Aa r.snd]))))):=by kernel_rfl
theorem WH (r:D.State × Int)(e:D.Env)(s:D.Stmt):(fc B2 Fu Tryz.f89 [] (.tup [.agg (Ae r.1),Aa r.2])).goal (St.init [] [.agg (Ah e),.agg (Ar s)]) =
  (∃ (y:Int × Int),VC 114 [VV.agg (Ah e),VV.agg (Ar s)] (vII y)/\BB (y.snd != 0) (LQ (VV.tup [VV.agg [VV.nl,VV.nl,VV.nl,Aa 0,Aa 0,Aa 0],Aa y.snd]) (VV.tup [VV.agg (Ae r.fst),Aa r.snd])) (∃ (y_1:List Int × Int),VC 115 [VV.agg (Ah e),Ad true s.Args,Ad true s.Match] (VV.tup [Ad true y_1.fst,Aa y_1.snd])/\BB (y_1.snd != 0) (LQ (VV.tup [VV.agg [VV.nl,VV.nl,VV.nl,Aa 0,Aa 0,Aa 0],Aa y_1.snd]) (VV.tup [VV.agg (Ae r.fst),Aa r.snd])) (inX (IntKind.i64.wrap (y.fst - (1:Int))) e.S.Chans.length/\∃ (y_2:Int),VC 116 [VV.agg (Aw (e.S.Chans.getD (IntKind.i64.wrap (y.fst - (1:Int))).toNat default)),Ad true y_1.fst,Ad true s.Match,Ac (bif s.N==1 then true else s.N==3)] (Aa y_2)/\∃ (y_3:D.State),Al Tryz.prog 52 [] [VV.agg (Ae e.S)] [obG y_3,obC y_3,obP y_3] (VV.agg (AQ y_3 (VV.ow 0 0 y_3.Globals.length) (VV.ow 1 0 y_3.Chans.length) (VV.ow 2 0 y_3.Procs.length)))/\inX (IntKind.i64.wrap (y.fst - (1:Int))) y_3.Chans.length/\∃ (y_4:D.Chan × List Int × Int),VC 128 [VV.agg (Aw (y_3.Chans.getD (IntKind.i64.wrap (y.fst - (1:Int))).toNat default)),Aa y_2] (VV.tup [VV.agg (Aw y_4.fst),Ad true y_4.snd.fst,Aa y_4.snd.snd])/\BB (y_4.snd.snd != 0) (LQ (VV.tup [VV.agg [VV.nl,VV.nl,VV.nl,Aa 0,Aa 0,Aa 0],Aa y_4.snd.snd]) (VV.tup [VV.agg (Ae r.fst),Aa r.snd])) (BB (decide (s.N<2)) (inX (IntKind.i64.wrap (y.fst - (1:Int))) y_3.Chans.length/\Aq (fc B2 Fu Tryz.f89 [] (VV.tup [VV.agg (Ae r.fst),Aa r.snd])) [1,1,1,1,1,1,1,1,1,1,1] (Av [(2,VV.bp 0 0),(3,VV.bp 4 0),(4,VV.bp 5 0),(12,Ad true y_4.snd.fst)] [Ob.box [Az true e.M.Globals,Ad true e.M.Init,AX true e.M.Shapes,Ad true e.M.Chans,AM true e.M.Procs,Aa e.M.Claim,A7 true e.M.Exprs,VV.ow 1 0 y_3.Globals.length,VV.ow 2 0 y_3.Chans.length,VV.ow 3 0 y_3.Procs.length,Aa y_3.Last,Aa y_3.Alone,Aa y_3.Claim,Aa e.Pid,Ac e.Timeout,AR true e.Able],obG y_3,Ob.arr true 0 y_3.Chans.length 2 fun(j:Nat)=>bif j.beq (IntKind.i64.wrap (y.fst - (1:Int))).toNat then Aw y_4.fst else Aw (y_3.Chans.getD j default),obP y_3,Ob.box (Ar s),Ob.box [VV.nl,VV.nl,VV.nl,Aa 0,Aa 0,Aa 0]])) (Aq (fc B2 Fu Tryz.f89 [] (VV.tup [VV.agg (Ae r.fst),Aa r.snd])) [1,1,1,1,1,1,1,1,1,1,1] (Av [(2,VV.bp 0 0),(3,VV.bp 4 0),(4,VV.bp 5 0),(12,Ad true y_4.snd.fst)] [Ob.box [Az true e.M.Globals,Ad true e.M.Init,AX true e.M.Shapes,Ad true e.M.Chans,AM true e.M.Procs,Aa e.M.Claim,A7 true e.M.Exprs,VV.ow 1 0 y_3.Globals.length,VV.ow 2 0 y_3.Chans.length,VV.ow 3 0 y_3.Procs.length,Aa y_3.Last,Aa y_3.Alone,Aa y_3.Claim,Aa e.Pid,Ac e.Timeout,AR true e.Able],obG y_3,obC y_3,obP y_3,Ob.box (Ar s),Ob.box [VV.nl,VV.nl,VV.nl,Aa 0,Aa 0,Aa 0]])))))):=by kernel_rfl
theorem Aa4 (r:D.State × ByteArray × Int)(e:D.Env)(s:D.Stmt)(w:Wy):(fc B2 HF Tryz.f53 [] (.tup [.agg (Ae r.1),AS r.2.1,Aa r.2.2])).goal (St.init [] [.agg (Ah e),.agg (Ar s),.agg (Bu w)]) =
  (∃ (y:Bool),VC 83 [VV.agg (Ah e),Aa s.A] (Ac y)/\BB (s.Kind==1) (BB y (∃ (y:D.State × Int),VC 84 [VV.agg (Ah e),Aa s.A] (VV.tup [VV.agg (Ae y.fst),Aa y.snd])/\LQ (VV.tup [VV.agg (Ae y.fst),AS (⟨#[]⟩:ByteArray),Aa y.snd]) (VV.tup [VV.agg (Ae r.fst),AS r.snd.fst,Aa r.snd.snd])) (LQ (VV.tup [VV.agg (Ae e.S),AS (⟨#[]⟩:ByteArray),Aa 0]) (VV.tup [VV.agg (Ae r.fst),AS r.snd.fst,Aa r.snd.snd]))) (BB (s.Kind==2) (∃ (y:D.State × Int),VC 85 [VV.agg (Ah e),VV.agg (Ar s)] (VV.tup [VV.agg (Ae y.fst),Aa y.snd])/\LQ (VV.tup [VV.agg (Ae y.fst),AS (⟨#[]⟩:ByteArray),Aa y.snd]) (VV.tup [VV.agg (Ae r.fst),AS r.snd.fst,Aa r.snd.snd])) (BB (s.Kind==3) (∃ (y:Int × Int),VC 67 [VV.agg (Ah e),Aa s.A] (vII y)/\BB (bif y.snd==0 then y.fst==0 else false) (LQ (VV.tup [VV.agg (Ae e.S),AS (⟨#[]⟩:ByteArray),Aa 50]) (VV.tup [VV.agg (Ae r.fst),AS r.snd.fst,Aa r.snd.snd])) (LQ (VV.tup [VV.agg (Ae e.S),AS (⟨#[]⟩:ByteArray),Aa y.snd]) (VV.tup [VV.agg (Ae r.fst),AS r.snd.fst,Aa r.snd.snd]))) (BB (s.Kind==4) (∃ (y:List Int × Int),VC 86 [VV.agg (Ah e),Ad true s.Args] (VV.tup [Ad true y.fst,Aa y.snd])/\∃ (y_1:ByteArray),VC 87 [AS s.Text,Ad true y.fst] (AS y_1)/\LQ (VV.tup [VV.agg (Ae e.S),AS y_1,Aa y.snd]) (VV.tup [VV.agg (Ae r.fst),AS r.snd.fst,Aa r.snd.snd])) (BB (s.Kind==5) (∃ (y:D.State × Int),VC 88 [VV.agg (Ah e),VV.agg (Ar s),VV.agg (Bu w)] (VV.tup [VV.agg (Ae y.fst),Aa y.snd])/\LQ (VV.tup [VV.agg (Ae y.fst),AS (⟨#[]⟩:ByteArray),Aa y.snd]) (VV.tup [VV.agg (Ae r.fst),AS r.snd.fst,Aa r.snd.snd])) (BB (s.Kind==6) (∃ (y:D.State × Int),VC 89 [VV.agg (Ah e),VV.agg (Ar s)] (VV.tup [VV.agg (Ae y.fst),Aa y.snd])/\LQ (VV.tup [VV.agg (Ae y.fst),AS (⟨#[]⟩:ByteArray),Aa y.snd]) (VV.tup [VV.agg (Ae r.fst),AS r.snd.fst,Aa r.snd.snd])) (BB (s.Kind==9) (∃ (y:D.State),Al Tryz.prog 52 [] [VV.agg (Ae e.S)] [obG y,obC y,obP y] (VV.agg (AQ y (VV.ow 0 0 y.Globals.length) (VV.ow 1 0 y.Chans.length) (VV.ow 2 0 y.Procs.length)))/\(y.Chans.length+1)*32<=140737488355328/\Aq (fc B2 HF Tryz.f53 [] (VV.tup [VV.agg (Ae r.fst),AS r.snd.fst,Aa r.snd.snd])) [1,1,0,1,0,1,1,1,1,1,1,1,1,1,1,1,1,1,0,1,1,1] (Av [(3,VV.bp 0 0),(4,VV.bp 4 0),(6,VV.bp 5 0),(22,VV.bp 6 0)] [Ob.box [Az true e.M.Globals,Ad true e.M.Init,AX true e.M.Shapes,Ad true e.M.Chans,AM true e.M.Procs,Aa e.M.Claim,A7 true e.M.Exprs,VV.ow 1 0 y.Globals.length,VV.ow 2 0 (y.Chans.length+1),VV.ow 3 0 y.Procs.length,Aa y.Last,Aa y.Alone,Aa y.Claim,Aa e.Pid,Ac e.Timeout,AR true e.Able],obG y,Ob.arr true 0 (y.Chans.length+1) 2 fun(i:Nat)=>bif i.blt y.Chans.length then Aw (y.Chans.getD i default) else(fun(i:Nat)=>List.take 2 (List.drop (i*2) [Aa s.N,VV.nl])) (i - y.Chans.length),obP y,Ob.box (Ar s),Ob.box [VV.nl,VV.nl,VV.nl,Aa 0,Aa 0,Aa 0],Ob.box (AQ y (VV.ow 1 0 y.Globals.length) (VV.ow 2 0 (y.Chans.length+1)) (VV.ow 3 0 y.Procs.length))])) (LQ (VV.tup [VV.agg (Ae e.S),AS (⟨#[]⟩:ByteArray),Aa 0]) (VV.tup [VV.agg (Ae r.fst),AS r.snd.fst,Aa r.snd.snd]))))))))):=by kernel_rfl
theorem Agp (r:D.State × ByteArray × Int)(e:D.Env)(w:Wy):(fc B2 A5 Tryz.f24 [] (.tup [.agg (Ae r.1),AS r.2.1,Aa r.2.2])).goal (St.init [] [.agg (Ah e),.agg (Bu w)]) =
  (BB (w.Err != 0) (LQ (VV.tup [VV.agg [VV.nl,VV.nl,VV.nl,Aa 0,Aa 0,Aa 0],AS (⟨#[]⟩:ByteArray),Aa w.Err]) (VV.tup [VV.agg (Ae r.fst),AS r.snd.fst,Aa r.snd.snd])) (BB (decide (w.Way<0)) (∃ (y:D.State),Al Tryz.prog 52 [] [VV.agg (Ae e.S)] [obG y,obC y,obP y] (VV.agg (AQ y (VV.ow 0 0 y.Globals.length) (VV.ow 1 0 y.Chans.length) (VV.ow 2 0 y.Procs.length)))/\((0:Int)<=e.Pid/\e.Pid<=(↑y.Procs.length:Int))/\BB (decide (y.Alone>=(↑e.Pid.toNat:Int))) (LQ (VV.tup [VV.agg [Ad true y.Globals,AV true y.Chans,VV.sl true e.Pid.toNat 4 (C9 y.Procs),Aa e.Pid,Aa (-1),Aa y.Claim],AS (⟨#[]⟩:ByteArray),Aa 0]) (VV.tup [VV.agg (Ae r.fst),AS r.snd.fst,Aa r.snd.snd])) (LQ (VV.tup [VV.agg [Ad true y.Globals,AV true y.Chans,VV.sl true e.Pid.toNat 4 (C9 y.Procs),Aa e.Pid,Aa y.Alone,Aa y.Claim],AS (⟨#[]⟩:ByteArray),Aa 0]) (VV.tup [VV.agg (Ae r.fst),AS r.snd.fst,Aa r.snd.snd]))) (∃ (y:List D.Trans),VC 43 [VV.agg (Ah e),Aa w.Esc] (As true y)/\inX w.Way y.length/\∃ (y_1:D.State × ByteArray × Int),VC 53 [VV.agg (Ah e),VV.agg (Ar (y.getD w.Way.toNat default).S),VV.agg (Bu w)] (VV.tup [VV.agg (Ae y_1.fst),AS y_1.snd.fst,Aa y_1.snd.snd])/\BB (y_1.snd.snd != 0) (LQ (VV.tup [VV.agg [VV.nl,VV.nl,VV.nl,Aa 0,Aa 0,Aa 0],AS (⟨#[]⟩:ByteArray),Aa y_1.snd.snd]) (VV.tup [VV.agg (Ae r.fst),AS r.snd.fst,Aa r.snd.snd])) (∃ (y_2:D.State),Al Tryz.prog 52 [] [VV.agg (Ae y_1.fst)] [obG y_2,obC y_2,obP y_2] (VV.agg (AQ y_2 (VV.ow 0 0 y_2.Globals.length) (VV.ow 1 0 y_2.Chans.length) (VV.ow 2 0 y_2.Procs.length)))/\BB (decide (w.With>=0)) (∃ (y_3:D.Env),VC 54 [VV.agg (Ah e),Aa w.With] (VV.agg (Ah y_3))/\∃ (y_4:List D.Trans),VC 43 [VV.agg (Ah y_3),Aa w.WithEsc] (As true y_4)/\inX w.WithWay y_4.length/\inX w.With y_2.Procs.length/\inX e.Pid y_2.Procs.length/\LQ (VV.tup [VV.agg [Ad true y_2.Globals,AV true y_2.Chans,VV.sl true y_2.Procs.length 4 fun(j:Nat)=>bif j.beq e.Pid.toNat then bif Nat.beq 1 4 then[Aa (y.getD w.Way.toNat default).To] else List.take 1 ((fun(j:Nat)=>bif j.beq w.With.toNat then[Aa (y_2.Procs.getD w.With.toNat default).Type_,Aa (y_4.getD w.WithWay.toNat default).To,Aa (y_2.Procs.getD w.With.toNat default).Prio,Ad true (y_2.Procs.getD w.With.toNat default).Frame] else AB (y_2.Procs.getD j default)) e.Pid.toNat)++[Aa (y.getD w.Way.toNat default).To]++List.drop 2 ((fun(j:Nat)=>bif j.beq w.With.toNat then[Aa (y_2.Procs.getD w.With.toNat default).Type_,Aa (y_4.getD w.WithWay.toNat default).To,Aa (y_2.Procs.getD w.With.toNat default).Prio,Ad true (y_2.Procs.getD w.With.toNat default).Frame] else AB (y_2.Procs.getD j default)) e.Pid.toNat) else(fun(j:Nat)=>bif j.beq w.With.toNat then[Aa (y_2.Procs.getD w.With.toNat default).Type_,Aa (y_4.getD w.WithWay.toNat default).To,Aa (y_2.Procs.getD w.With.toNat default).Prio,Ad true (y_2.Procs.getD w.With.toNat default).Frame] else AB (y_2.Procs.getD j default)) j,Aa e.Pid,Aa y_2.Alone,Aa y_2.Claim],AS y_1.snd.fst,Aa 0]) (VV.tup [VV.agg (Ae r.fst),AS r.snd.fst,Aa r.snd.snd])) (inX e.Pid y_2.Procs.length/\LQ (VV.tup [VV.agg [Ad true y_2.Globals,AV true y_2.Chans,VV.sl true y_2.Procs.length 4 fun(j:Nat)=>bif j.beq e.Pid.toNat then[Aa (y_2.Procs.getD e.Pid.toNat default).Type_,Aa (y.getD w.Way.toNat default).To,Aa (y_2.Procs.getD e.Pid.toNat default).Prio,Ad true (y_2.Procs.getD e.Pid.toNat default).Frame] else AB (y_2.Procs.getD j default),Aa e.Pid,Aa y_2.Alone,Aa y_2.Claim],AS y_1.snd.fst,Aa 0]) (VV.tup [VV.agg (Ae r.fst),AS r.snd.fst,Aa r.snd.snd])))))):=by kernel_rfl
theorem AdI (r:List Int)(m:D.Model)(s:D.State)(l:List Bool)(t:Bool):(fc B2 PA Tryz.f17 [] (Ad true r)).goal (St.init [] [.agg (Af m),.agg (Ae s),AR true l,Ac t]) =
  (Aq (fc B2 PA Tryz.f17 [] (Ad true r)) [1,1,1,0,1,0] (Av [(2,AR true l),(3,Ac t),(4,VV.bp 0 0),(5,VV.bp 1 0),(9,VV.nl),(10,Aa 0),(11,Aa 0)] [Ob.box (Af m),Ob.box (Ae s)])):=by kernel_rfl
theorem Agq (r:D.Loc × Bool)(m:D.Model)(s:D.State)(pid:Int):(fc B2 A5 Tryz.f45 [] (.tup [.agg (Bf r.1),Ac r.2])).goal (St.init [] [.agg (Af m),.agg (Ae s),Aa pid]) =
  (BB (bif decide (pid<0) then true else decide (pid>=(↑s.Procs.length:Int))) (LQ (VV.tup [VV.agg [VV.nl,VV.nl,Ac false,Ac false,Ac false,Ac false,Ac false],Ac false]) (VV.tup [VV.agg (Bf r.fst),Ac r.snd])) (inX pid s.Procs.length/\inX (s.Procs.getD pid.toNat default).Type_ m.Procs.length/\inX pid s.Procs.length/\inX (s.Procs.getD pid.toNat default).Loc (m.Procs.getD (s.Procs.getD pid.toNat default).Type_.toNat default).Locs.length/\LQ (VV.tup [VV.agg (Bf ((m.Procs.getD (s.Procs.getD pid.toNat default).Type_.toNat default).Locs.getD (s.Procs.getD pid.toNat default).Loc.toNat default)),Ac true]) (VV.tup [VV.agg (Bf r.fst),Ac r.snd]))):=by kernel_rfl
theorem Ago (r:D.State × ByteArray × Int)(m:D.Model)(s:D.State)(pid:Int):(fc B2 L0 Tryz.f44 [] (.tup [.agg (Ae r.1),AS r.2.1,Aa r.2.2])).goal (St.init [] [.agg (Af m),.agg (Ae s),Aa pid]) =
  (Aq (fc B2 L0 Tryz.f44 [] (VV.tup [VV.agg (Ae r.fst),AS r.snd.fst,Aa r.snd.snd])) [1,1,0,1,0] (AiH m s pid (⟨#[]⟩:ByteArray) (0:Int))):=by kernel_rfl
theorem AaJ (r:Nx)(e:D.Env)(w:Wy):(fc B2 A5 Tryz.f19 [] (.agg (CI r))).goal (St.init [] [.agg (Ah e),.agg (Bu w)]) =
  (∃ (y:D.State × ByteArray × Int),VC 24 [VV.agg (Ah e),VV.agg (Bu w)] (VV.tup [VV.agg (Ae y.fst),AS y.snd.fst,Aa y.snd.snd])/\BB (y.snd.snd==0) (∃ (y_1:D.State × ByteArray × Int),VC 44 [VV.agg (Af e.M),VV.agg (Ae y.fst),Aa e.Pid] (VV.tup [VV.agg (Ae y_1.fst),AS y_1.snd.fst,Aa y_1.snd.snd])/\BB (y_1.snd.snd != 0) (LQ (VV.agg [Aa e.Pid,Aa w.Esc,Aa w.Way,Aa w.With,Aa w.WithEsc,Aa w.WithWay,Aa (-1),VV.nl,VV.nl,VV.nl,Aa 0,Aa 0,Aa 0,Aa y_1.snd.snd,AS ByteArray.empty]) (VV.agg (CI r))) (∃ (y_2:D.Loc × Bool),VC 45 [VV.agg (Af e.M),VV.agg [Ad true y_1.fst.Globals,AV true y_1.fst.Chans,Ay true y_1.fst.Procs,Aa y_1.fst.Last,Aa (-1),Aa y_1.fst.Claim],Aa e.Pid] (VV.tup [VV.agg (Bf y_2.fst),Ac y_2.snd])/\∃ (y_3:D.Loc × Bool),VC 45 [VV.agg (Af e.M),VV.agg [Ad true y_1.fst.Globals,AV true y_1.fst.Chans,Ay true y_1.fst.Procs,Aa y_1.fst.Last,Aa (-1),Aa y_1.fst.Claim],Aa w.With] (VV.tup [VV.agg (Bf y_3.fst),Ac y_3.snd])/\BB (bif y_2.snd then y_2.fst.Atomic else false) (BB (bif y_3.snd then y_3.fst.Atomic else false) ((↑(y.snd.fst.size+y_1.snd.fst.size):Int)<=(9223372036854775807:Int)/\LQ (VV.agg [Aa e.Pid,Aa w.Esc,Aa w.Way,Aa w.With,Aa w.WithEsc,Aa w.WithWay,Aa (-1),Ad true y_1.fst.Globals,AV true y_1.fst.Chans,Ay true y_1.fst.Procs,Aa y_1.fst.Last,Aa w.With,Aa y_1.fst.Claim,Aa 0,AS (y.snd.fst++y_1.snd.fst)]) (VV.agg (CI r))) ((↑(y.snd.fst.size+y_1.snd.fst.size):Int)<=(9223372036854775807:Int)/\LQ (VV.agg [Aa e.Pid,Aa w.Esc,Aa w.Way,Aa w.With,Aa w.WithEsc,Aa w.WithWay,Aa (-1),Ad true y_1.fst.Globals,AV true y_1.fst.Chans,Ay true y_1.fst.Procs,Aa y_1.fst.Last,Aa e.Pid,Aa y_1.fst.Claim,Aa 0,AS (y.snd.fst++y_1.snd.fst)]) (VV.agg (CI r)))) (BB (bif y_3.snd then y_3.fst.Atomic else false) ((↑(y.snd.fst.size+y_1.snd.fst.size):Int)<=(9223372036854775807:Int)/\LQ (VV.agg [Aa e.Pid,Aa w.Esc,Aa w.Way,Aa w.With,Aa w.WithEsc,Aa w.WithWay,Aa (-1),Ad true y_1.fst.Globals,AV true y_1.fst.Chans,Ay true y_1.fst.Procs,Aa y_1.fst.Last,Aa w.With,Aa y_1.fst.Claim,Aa 0,AS (y.snd.fst++y_1.snd.fst)]) (VV.agg (CI r))) ((↑(y.snd.fst.size+y_1.snd.fst.size):Int)<=(9223372036854775807:Int)/\LQ (VV.agg [Aa e.Pid,Aa w.Esc,Aa w.Way,Aa w.With,Aa w.WithEsc,Aa w.WithWay,Aa (-1),Ad true y_1.fst.Globals,AV true y_1.fst.Chans,Ay true y_1.fst.Procs,Aa y_1.fst.Last,Aa (-1),Aa y_1.fst.Claim,Aa 0,AS (y.snd.fst++y_1.snd.fst)]) (VV.agg (CI r)))))) (BB (y.snd.snd != 0) (LQ (VV.agg [Aa e.Pid,Aa w.Esc,Aa w.Way,Aa w.With,Aa w.WithEsc,Aa w.WithWay,Aa (-1),VV.nl,VV.nl,VV.nl,Aa 0,Aa 0,Aa 0,Aa y.snd.snd,AS ByteArray.empty]) (VV.agg (CI r))) (∃ (y_1:D.Loc × Bool),VC 45 [VV.agg (Af e.M),VV.agg [Ad true y.fst.Globals,AV true y.fst.Chans,Ay true y.fst.Procs,Aa y.fst.Last,Aa (-1),Aa y.fst.Claim],Aa e.Pid] (VV.tup [VV.agg (Bf y_1.fst),Ac y_1.snd])/\∃ (y_2:D.Loc × Bool),VC 45 [VV.agg (Af e.M),VV.agg [Ad true y.fst.Globals,AV true y.fst.Chans,Ay true y.fst.Procs,Aa y.fst.Last,Aa (-1),Aa y.fst.Claim],Aa w.With] (VV.tup [VV.agg (Bf y_2.fst),Ac y_2.snd])/\BB (bif y_1.snd then y_1.fst.Atomic else false) (BB (bif y_2.snd then y_2.fst.Atomic else false) ((↑(y.snd.fst.size+(⟨#[]⟩:ByteArray).size):Int)<=(9223372036854775807:Int)/\LQ (VV.agg [Aa e.Pid,Aa w.Esc,Aa w.Way,Aa w.With,Aa w.WithEsc,Aa w.WithWay,Aa (-1),Ad true y.fst.Globals,AV true y.fst.Chans,Ay true y.fst.Procs,Aa y.fst.Last,Aa w.With,Aa y.fst.Claim,Aa 0,AS (y.snd.fst++(⟨#[]⟩:ByteArray))]) (VV.agg (CI r))) ((↑(y.snd.fst.size+(⟨#[]⟩:ByteArray).size):Int)<=(9223372036854775807:Int)/\LQ (VV.agg [Aa e.Pid,Aa w.Esc,Aa w.Way,Aa w.With,Aa w.WithEsc,Aa w.WithWay,Aa (-1),Ad true y.fst.Globals,AV true y.fst.Chans,Ay true y.fst.Procs,Aa y.fst.Last,Aa e.Pid,Aa y.fst.Claim,Aa 0,AS (y.snd.fst++(⟨#[]⟩:ByteArray))]) (VV.agg (CI r)))) (BB (bif y_2.snd then y_2.fst.Atomic else false) ((↑(y.snd.fst.size+(⟨#[]⟩:ByteArray).size):Int)<=(9223372036854775807:Int)/\LQ (VV.agg [Aa e.Pid,Aa w.Esc,Aa w.Way,Aa w.With,Aa w.WithEsc,Aa w.WithWay,Aa (-1),Ad true y.fst.Globals,AV true y.fst.Chans,Ay true y.fst.Procs,Aa y.fst.Last,Aa w.With,Aa y.fst.Claim,Aa 0,AS (y.snd.fst++(⟨#[]⟩:ByteArray))]) (VV.agg (CI r))) ((↑(y.snd.fst.size+(⟨#[]⟩:ByteArray).size):Int)<=(9223372036854775807:Int)/\LQ (VV.agg [Aa e.Pid,Aa w.Esc,Aa w.Way,Aa w.With,Aa w.WithEsc,Aa w.WithWay,Aa (-1),Ad true y.fst.Globals,AV true y.fst.Chans,Ay true y.fst.Procs,Aa y.fst.Last,Aa (-1),Aa y.fst.Claim,Aa 0,AS (y.snd.fst++(⟨#[]⟩:ByteArray))]) (VV.agg (CI r))))))):=by kernel_rfl
theorem Ws (r:List Nx)(m:D.Model)(s:D.State):(fc B2 EE Tryz.f7 [] (BC true r)).goal (St.init [] [.agg (Af m),.agg (Ae s)]) =
  (∃ (y:List Bool),VC 16 [VV.agg (Af m),VV.agg (Ae s)] (AR true y)/\∃ (y_1:List Int),VC 17 [VV.agg (Af m),VV.agg (Ae s),AR true y,Ac false] (Ad true y_1)/\BB ((↑y_1.length:Int)==0) (∃ (y_2:List Int),VC 17 [VV.agg (Af m),VV.agg (Ae s),AR true y,Ac true] (Ad true y_2)/\Aq (fc B2 EE Tryz.f7 [] (BC true r)) [1,1,1,1,1,1,0,1,0] (Av [(2,VV.bp 0 0),(3,VV.bp 1 0),(5,AR true y),(6,Ac true),(7,Ad true y_2),(8,VV.nl),(9,Aa 0)] [Ob.box (Af m),Ob.box (Ae s)])) (Aq (fc B2 EE Tryz.f7 [] (BC true r)) [1,1,1,1,1,1,0,1,0] (Av [(2,VV.bp 0 0),(3,VV.bp 1 0),(5,AR true y),(6,Ac false),(7,Ad true y_1),(8,VV.nl),(9,Aa 0)] [Ob.box (Af m),Ob.box (Ae s)]))):=by kernel_rfl
theorem Aa5 (hs':List Ob)(r:VV)(s:D.State):(Df Tryz.prog tb B2 DS false Tryz.f52 hs' (r)).goal (St.init [] [.agg (Ae s)]) =
  (s.Globals.length*8<=140737488355328/\(∀ (i:Nat),i<s.Globals.length->(AJ s.Globals i).all VV.mem1=true)/\Aq (Df Tryz.prog tb B2 DS false Tryz.f52 hs' r) [1,1,1,0,1,0] (Av [(1,VV.bp 0 0),(2,VV.bp 1 0),(3,VV.bp 2 0),(4,Aa 0)] [Ob.box (Ae s),Ob.box [VV.nl,VV.nl,VV.nl,Aa 0,Aa 0,Aa 0],Ob.box (AQ s (VV.ow 3 0 s.Globals.length) VV.nl VV.nl),obG s])):=by kernel_rfl
theorem W6 (hs':List Ob)(r:VV)(s:D.State)(cs:List D.Chan)(k:Int)(J:St->Prop):((Df Tryz.prog tb B2 DS false Tryz.f52 hs' (r)).loop [1,1,1,0,1,0] J).goal (Ahr s cs k) =
  (BB (decide (k<(↑s.Chans.length:Int))) (inX k s.Chans.length/\Aq ((Df Tryz.prog tb B2 DS false Tryz.f52 hs' r).loop [1,1,1,0,1,0] J) [1,0,0,1,0,1,0] (Av [(1,VV.bp 0 0),(2,VV.bp 1 0),(3,VV.bp 2 0),(4,Aa k),(5,VV.bp 5 0),(6,Aa 0)] [Ob.box (Ae s),Ob.box [VV.nl,VV.nl,VV.nl,Aa 0,Aa 0,Aa 0],Ob.box (AQ s (VV.ow 3 0 s.Globals.length) (VV.ow 4 0 cs.length) VV.nl),obG s,Ob.arr true 0 cs.length 2 (CL cs),Ob.box [Aa (s.Chans.getD k.toNat default).Shape,VV.nl]])) (Aq (Df Tryz.prog tb B2 DS false Tryz.f52 hs' r) [1,1,1,1,0,1,0] (Av [(1,VV.bp 0 0),(2,VV.bp 1 0),(3,VV.bp 2 0),(8,Aa 0)] [Ob.box (Ae s),Ob.box [VV.nl,VV.nl,VV.nl,Aa 0,Aa 0,Aa 0],Ob.box (AQ s (VV.ow 3 0 s.Globals.length) (VV.ow 4 0 cs.length) VV.nl),obG s,Ob.arr true 0 cs.length 2 (CL cs)]))):=by kernel_rfl
theorem W5 (hs':List Ob)(r:VV)(s:D.State)(cs:List D.Chan)(k:Int)(c:Int)(q:List (List Int))(j:Int)(J J2:St->Prop):(((Df Tryz.prog tb B2 DS false Tryz.f52 hs' (r)).loop [1,1,1,0,1,0] J).loop [1,0,0,1,0,1,0] J2).goal (Ahq s cs k c q j) =
  (inX k s.Chans.length/\BB (decide (j<(↑(s.Chans.getD k.toNat default).Queue.length:Int))) (inX k s.Chans.length/\inX j (s.Chans.getD k.toNat default).Queue.length/\((s.Chans.getD k.toNat default).Queue.getD j.toNat []).length*8<=140737488355328/\(∀ (i:Nat),i<((s.Chans.getD k.toNat default).Queue.getD j.toNat []).length->(AJ ((s.Chans.getD k.toNat default).Queue.getD j.toNat []) i).all VV.mem1=true)/\(q.length+1)*24<=140737488355328/\J2 (Av [(1,VV.bp 0 0),(2,VV.bp 1 0),(3,VV.bp 2 0),(4,Aa k),(5,VV.bp 5 0),(6,Aa (IntKind.i64.wrap (j+(1:Int))))] [Ob.box (Ae s),Ob.box [VV.nl,VV.nl,VV.nl,Aa 0,Aa 0,Aa 0],Ob.box (AQ s (VV.ow 3 0 s.Globals.length) (VV.ow 4 0 cs.length) VV.nl),obG s,Ob.arr true 0 cs.length 2 (CL cs),Ob.box [Aa c,VV.ow 6 0 (q.length+1)],Ob.arr true 0 (q.length+1) 1 fun(i:Nat)=>bif i.blt q.length then[Ad true (q.getD i [])] else(fun(i:Nat)=>(List.map (fun(x:List VV × List Nat)=>x.fst) [([Ad true ((s.Chans.getD k.toNat default).Queue.getD j.toNat [])],List.flatMap (fun(x:VV × List Nat)=>x.snd) [(Ad true ((s.Chans.getD k.toNat default).Queue.getD j.toNat []),[7])])]).getD i []) (i - q.length)])) ((cs.length+1)*32<=140737488355328/\J (Av [(1,VV.bp 0 0),(2,VV.bp 1 0),(3,VV.bp 2 0),(4,Aa (IntKind.i64.wrap (k+(1:Int))))] [Ob.box (Ae s),Ob.box [VV.nl,VV.nl,VV.nl,Aa 0,Aa 0,Aa 0],Ob.box (AQ s (VV.ow 3 0 s.Globals.length) (VV.ow 4 0 (cs.length+1)) VV.nl),obG s,Ob.arr true 0 (cs.length+1) 2 fun(i:Nat)=>bif i.blt cs.length then CL cs i else(fun(i:Nat)=>(List.map (fun(x:List VV × List Nat)=>x.fst) [(List.map (fun(x:VV × List Nat)=>x.fst) [(Aa c,[]),(VV.sl true q.length 1 (Ed q),[6])],List.flatMap (fun(x:VV × List Nat)=>x.snd) [(Aa c,[]),(VV.sl true q.length 1 (Ed q),[6])])]).getD i []) (i - cs.length)]))):=by kernel_rfl
theorem OS (hs':List Ob)(r:VV)(s:D.State)(cs:List D.Chan)(ps:List D.Process)(k:Int)(J:St->Prop):((Df Tryz.prog tb B2 DS false Tryz.f52 hs' (r)).loop [1,1,1,1,0,1,0] J).goal (Ql s cs ps k) =
  (BB (decide (k<(↑s.Procs.length:Int))) (inX k s.Procs.length/\inX k s.Procs.length/\(s.Procs.getD k.toNat default).Frame.length*8<=140737488355328/\(∀ (i:Nat),i<(s.Procs.getD k.toNat default).Frame.length->(AJ (s.Procs.getD k.toNat default).Frame i).all VV.mem1=true)/\(ps.length+1)*48<=140737488355328/\J (Av [(1,VV.bp 0 0),(2,VV.bp 1 0),(3,VV.bp 2 0),(8,Aa (IntKind.i64.wrap (k+(1:Int))))] [Ob.box (Ae s),Ob.box [VV.nl,VV.nl,VV.nl,Aa 0,Aa 0,Aa 0],Ob.box (AQ s (VV.ow 3 0 s.Globals.length) (VV.ow 4 0 cs.length) (VV.ow 5 0 (ps.length+1))),obG s,Ob.arr true 0 cs.length 2 (CL cs),Ob.arr true 0 (ps.length+1) 4 fun(i:Nat)=>bif i.blt ps.length then AB (ps.getD i default) else(fun(i:Nat)=>(List.map (fun(x:List VV × List Nat)=>x.fst) [(AB (s.Procs.getD k.toNat default),List.flatMap (fun(x:VV × List Nat)=>x.snd) [(Aa (s.Procs.getD k.toNat default).Type_,[]),(Aa (s.Procs.getD k.toNat default).Loc,[]),(Aa (s.Procs.getD k.toNat default).Prio,[]),(Ad true (s.Procs.getD k.toNat default).Frame,[7])])]).getD i []) (i - ps.length)])) (leO [obG s,Ob.arr true 0 cs.length 2 (CL cs),Ob.arr true 0 ps.length 4 (C9 ps)] hs'/\(VV.agg (AQ s (VV.ow 0 0 s.Globals.length) (VV.ow 1 0 cs.length) (VV.ow 2 0 ps.length))).le r)):=by kernel_rfl
theorem Uc (r:D.Process)(m:D.Model)(typ:Int)(args l:List Int)(k:Int)(J:St->Prop):((fc B2 KT Tryz.f123 [] (.agg (AB r))).loop [1,1,1,1,0,1,0] J).goal (YN m typ args l k) =
  (BB (decide (k<(↑args.length:Int))) (inX k (AN m typ).Frame.length/\inX k args.length/\∃ (y:Int),VC 129 [VV.agg (Bs ((AN m typ).Frame.getD k.toNat default)),Aa (args.getD k.toNat 0)] (Aa y)/\inX k l.length/\J (Av [(2,Ad true args),(6,VV.bp 0 0),(7,VV.bp 1 0),(8,VV.bp 2 0),(9,Aa (IntKind.i64.wrap (k+(1:Int))))] [Ob.box [Aa 0,Aa 0,Aa 0,VV.nl],Ob.box (AO (AN m typ)),Ob.box [Aa typ,Aa (AN m typ).Start,Aa (AN m typ).Prio,VV.ow 3 0 l.length],Ob.arr true 0 l.length 1 fun(j:Nat)=>bif j.beq k.toNat then[Aa y] else[Aa (l.getD j 0)]])) (LQ (VV.agg [Aa typ,Aa (AN m typ).Start,Aa (AN m typ).Prio,Ad true l]) (VV.agg (AB r)))):=by kernel_rfl
theorem WP (b:Bool)(x y:List Int)(k:Int)(J:St->Prop):((fc B2 MN Tryz.f25 [] (Ac b)).loop [1,1,0,1,0] J).goal (IU x y k) =
  (BB (decide (k<(↑x.length:Int))) (inX k x.length/\inX k y.length/\BB (x.getD k.toNat 0 != y.getD k.toNat 0) (LQ (Ac false) (Ac b)) (J (IU x y (IntKind.i64.wrap (k+(1:Int)))))) (LQ (Ac true) (Ac b))):=by kernel_rfl
theorem T0 (b:Bool)(x y:D.Chan)(k:Int)(J:St->Prop):((fc B2 KO Tryz.f26 [] (Ac b)).loop [1,1,0,1,0] J).goal (YF x y k) =
  (BB (decide (k<(↑x.Queue.length:Int))) (inX k x.Queue.length/\inX k y.Queue.length/\∃ (y_1:Bool),VC 25 [Ad true (x.Queue.getD k.toNat []),Ad true (y.Queue.getD k.toNat [])] (Ac y_1)/\BB (!y_1) (LQ (Ac false) (Ac b)) (J (YF x y (IntKind.i64.wrap (k+(1:Int)))))) (LQ (Ac true) (Ac b))):=by kernel_rfl
theorem WE (b:Bool)(x y:D.State)(k:Int)(J:St->Prop):((fc B2 HD Tryz.f11 [] (Ac b)).loop [1,1,1,0,1,0] J).goal (M2 x y 6 k) =
  (BB (decide (k<(↑x.Chans.length:Int))) (inX k x.Chans.length/\inX k y.Chans.length/\∃ (y_1:Bool),VC 26 [VV.agg (Aw (x.Chans.getD k.toNat default)),VV.agg (Aw (y.Chans.getD k.toNat default))] (Ac y_1)/\BB (!y_1) (LQ (Ac false) (Ac b)) (J (M2 x y 6 (IntKind.i64.wrap (k+(1:Int)))))) (Aq (fc B2 HD Tryz.f11 [] (Ac b)) [1,1,1,1,0,1,0] (M2 x y 7 (0:Int)))):=by kernel_rfl
theorem WD (b:Bool)(x y:D.State)(k:Int)(J:St->Prop):((fc B2 HD Tryz.f11 [] (Ac b)).loop [1,1,1,1,0,1,0] J).goal (M2 x y 7 k) =
  (BB (decide (k<(↑x.Procs.length:Int))) (inX k x.Procs.length/\inX k y.Procs.length/\∃ (y_1:Bool),VC 25 [Ad true (x.Procs.getD k.toNat default).Frame,Ad true (y.Procs.getD k.toNat default).Frame] (Ac y_1)/\BB (bif bif bif !y_1 then true else(x.Procs.getD k.toNat default).Type_ != (y.Procs.getD k.toNat default).Type_ then true else(x.Procs.getD k.toNat default).Loc != (y.Procs.getD k.toNat default).Loc then true else(x.Procs.getD k.toNat default).Prio != (y.Procs.getD k.toNat default).Prio) (LQ (Ac false) (Ac b)) (J (M2 x y 7 (IntKind.i64.wrap (k+(1:Int)))))) (LQ (Ac true) (Ac b))):=by kernel_rfl
theorem WV (b:Bool)(x y:List Int)(k:Int)(J:St->Prop):((fc B2 MO Tryz.f156 [] (Ac b)).loop [1,0,1,0] J).goal (IU x y k) =
  (BB (bif decide (k<(↑x.length:Int)) then decide (k<(↑y.length:Int)) else false) (inX k x.length/\inX k y.length/\BB (x.getD k.toNat 0 != y.getD k.toNat 0) (inX k x.length/\inX k y.length/\LQ (Ac (decide (x.getD k.toNat 0<y.getD k.toNat 0))) (Ac b)) (J (IU x y (IntKind.i64.wrap (k+(1:Int)))))) (LQ (Ac (decide ((↑x.length:Int)<(↑y.length:Int)))) (Ac b))):=by kernel_rfl
theorem AaS (r:D.Chan × Int)(s:D.Shape)(c:D.Chan)(m:List Int)(so:Bool)(x:List Int)(k:Int)(J:St->Prop):((fc B2 Jj Tryz.f127 [] (.tup [.agg (Aw r.1),Aa r.2])).loop [1,1,1,0,1,0] J).goal (YH s c m so x k) =
  (BB (decide (k<(↑m.length:Int))) (inX k s.Fields.length/\∃ (y:Bool),VC 105 [VV.agg (Bs (s.Fields.getD k.toNat default))] (Ac y)/\BB (!y) (LQ (VV.tup [VV.agg [Aa 0,VV.nl],Aa 42]) (VV.tup [VV.agg (Aw r.fst),Aa r.snd])) (inX k s.Fields.length/\inX k m.length/\∃ (y:Int),VC 129 [VV.agg (Bs (s.Fields.getD k.toNat default)),Aa (m.getD k.toNat 0)] (Aa y)/\(x.length+1)*8<=140737488355328/\J (Av [(2,Ad true m),(3,Ac so),(4,VV.bp 0 0),(5,VV.bp 1 0),(8,VV.bp 2 0),(10,VV.ow 3 0 (x.length+1)),(11,Aa (IntKind.i64.wrap (k+(1:Int))))] [Ob.box (BZ s),Ob.box (Aw c),Ob.box [Aa 0,VV.nl],Ob.arr true 0 (x.length+1) 1 fun(i:Nat)=>bif i.blt x.length then[Aa (x.getD i 0)] else(fun(i:Nat)=>List.take 1 (List.drop (i*1) [Aa y])) (i - x.length)]))) (BB (decide ((↑c.Queue.length:Int)>=s.Room)) (LQ (VV.tup [VV.agg [Aa 0,VV.nl],Aa 45]) (VV.tup [VV.agg (Aw r.fst),Aa r.snd])) (Aq (fc B2 Jj Tryz.f127 [] (VV.tup [VV.agg (Aw r.fst),Aa r.snd])) [1,1,1,1,1,1,1,0,1,0] (Av [(3,Ac so),(5,VV.bp 0 0),(8,VV.bp 1 0),(10,VV.ow 2 0 x.length),(13,VV.bp 3 0),(14,Ac false),(15,Aa 0)] [Ob.box (Aw c),Ob.box [Aa 0,VV.nl],Ob.arr true 0 x.length 1 (AJ x),Ob.box [Aa c.Shape,VV.nl]])))):=by kernel_rfl
theorem AaR (r:D.Chan × Int)(c:D.Chan)(so:Bool)(x:List Int)(out:List (List Int))(dn:Bool)(k:Int)(J:St->Prop):((fc B2 Jj Tryz.f127 [] (.tup [.agg (Aw r.1),Aa r.2])).loop [1,1,1,1,1,1,1,0,1,0] J).goal (Tg c so x out dn k) =
  (BB (decide (k<(↑c.Queue.length:Int))) (inX k c.Queue.length/\∃ (y:Bool),VC 156 [Ad true x,Ad true (c.Queue.getD k.toNat [])] (Ac y)/\BB (bif bif so then !dn else false then y else false) ((out.length+1)*24<=140737488355328/\inX k c.Queue.length/\(out.length+1+1)*24<=140737488355328/\J (Av [(3,Ac so),(5,VV.bp 0 0),(8,VV.bp 1 0),(10,Ad true x),(13,VV.bp 2 0),(14,Ac true),(15,Aa (IntKind.i64.wrap (k+(1:Int))))] [Ob.box (Aw c),Ob.box [Aa 0,VV.nl],Ob.box [Aa c.Shape,VV.ow 3 0 (out.length+1+1)],Ob.arr true 0 (out.length+1+1) 1 fun(i:Nat)=>bif i.blt (out.length+1) then(fun(i:Nat)=>bif i.blt out.length then[Ad true (out.getD i [])] else(fun(i:Nat)=>List.take 1 (List.drop (i*1) [Ad true x])) (i - out.length)) i else(fun(i:Nat)=>List.take 1 (List.drop (i*1) [Ad true (c.Queue.getD k.toNat [])])) (i - (out.length+1))])) (inX k c.Queue.length/\(out.length+1)*24<=140737488355328/\J (Av [(3,Ac so),(5,VV.bp 0 0),(8,VV.bp 1 0),(10,Ad true x),(13,VV.bp 2 0),(14,Ac dn),(15,Aa (IntKind.i64.wrap (k+(1:Int))))] [Ob.box (Aw c),Ob.box [Aa 0,VV.nl],Ob.box [Aa c.Shape,VV.ow 3 0 (out.length+1)],Ob.arr true 0 (out.length+1) 1 fun(i:Nat)=>bif i.blt out.length then[Ad true (out.getD i [])] else(fun(i:Nat)=>List.take 1 (List.drop (i*1) [Ad true (c.Queue.getD k.toNat [])])) (i - out.length)]))) (BB (!dn) ((out.length+1)*24<=140737488355328/\LQ (VV.tup [VV.agg [Aa c.Shape,VV.sl true (out.length+1) 1 fun(i:Nat)=>bif i.blt out.length then[Ad true (out.getD i [])] else(fun(i:Nat)=>List.take 1 (List.drop (i*1) [Ad true x])) (i - out.length)],Aa 0]) (VV.tup [VV.agg (Aw r.fst),Aa r.snd])) (LQ (VV.tup [VV.agg [Aa c.Shape,Gc true out],Aa 0]) (VV.tup [VV.agg (Aw r.fst),Aa r.snd])))):=by kernel_rfl
theorem T9 (r:D.State × Int)(e:D.Env)(s:D.Stmt)(m:List Int)(k:Int)(J:St->Prop):((fc B2 KS Tryz.f126 [] (.tup [.agg (Ae r.1),Aa r.2])).loop [1,0,1,0] J).goal (YL e s m k) =
  (BB (decide (k<(↑s.Args.length:Int))) (inX k s.Match.length/\BB (s.Match.getD k.toNat 0 != 0) (J (YL e s m (IntKind.i64.wrap (k+(1:Int))))) (inX k s.Args.length/\inX k m.length/\∃ (y:D.State × Int),VC 90 [VV.agg (Ah e),Aa (s.Args.getD k.toNat 0),Aa (m.getD k.toNat 0)] (VV.tup [VV.agg (Ae y.fst),Aa y.snd])/\BB (y.snd != 0) (LQ (VV.tup [VV.agg [VV.nl,VV.nl,VV.nl,Aa 0,Aa 0,Aa 0],Aa y.snd]) (VV.tup [VV.agg (Ae r.fst),Aa r.snd])) (J (Av [(2,Ad true m),(3,VV.bp 0 0),(4,VV.bp 1 0),(6,VV.bp 2 0),(8,Aa (IntKind.i64.wrap (k+(1:Int))))] [Ob.box [Az true e.M.Globals,Ad true e.M.Init,AX true e.M.Shapes,Ad true e.M.Chans,AM true e.M.Procs,Aa e.M.Claim,A7 true e.M.Exprs,Ad true y.fst.Globals,AV true y.fst.Chans,Ay true y.fst.Procs,Aa y.fst.Last,Aa y.fst.Alone,Aa y.fst.Claim,Aa e.Pid,Ac e.Timeout,AR true e.Able],Ob.box (Ar s),Ob.box [VV.nl,VV.nl,VV.nl,Aa 0,Aa 0,Aa 0]])))) (LQ (VV.tup [VV.agg (Ae e.S),Aa 0]) (VV.tup [VV.agg (Ae r.fst),Aa r.snd]))):=by kernel_rfl
theorem Aa0 (r:List Int)(m:D.Model)(s:D.State)(l:List Bool)(t:Bool)(out:List Int)(most k:Int)(J:St->Prop):((fc B2 PA Tryz.f17 [] (Ad true r)).loop [1,1,1,0,1,0] J).goal (Th m s l t out most k) =
  (BB (decide (k<(↑s.Procs.length:Int))) (∃ (y:List Wy),VC 18 [VV.agg [Az true m.Globals,Ad true m.Init,AX true m.Shapes,Ad true m.Chans,AM true m.Procs,Aa m.Claim,A7 true m.Exprs,Ad true s.Globals,AV true s.Chans,Ay true s.Procs,Aa s.Last,Aa s.Alone,Aa s.Claim,Aa k,Ac t,AR true l]] (BY true y)/\BB ((↑y.length:Int)==0) (J (Th m s l t out most (IntKind.i64.wrap (k+(1:Int))))) (BB (k==s.Alone) (LQ (VV.sl true 1 1 fun(i:Nat)=>List.take 1 (List.drop (i*1) [Aa k])) (Ad true r)) (inX k s.Procs.length/\BB (decide ((s.Procs.getD k.toNat default).Prio > most)) (inX k s.Procs.length/\inX k s.Procs.length/\BB ((s.Procs.getD k.toNat default).Prio==(s.Procs.getD k.toNat default).Prio) (1*8<=140737488355328/\J (Av [(2,AR true l),(3,Ac t),(4,VV.bp 0 0),(5,VV.bp 1 0),(9,VV.ow 2 0 1),(10,Aa (s.Procs.getD k.toNat default).Prio),(11,Aa (IntKind.i64.wrap (k+(1:Int))))] [Ob.box (Af m),Ob.box (Ae s),Ob.arr true 0 1 1 fun(i:Nat)=>List.take 1 (List.drop (i*1) [Aa k])])) (J (Av [(2,AR true l),(3,Ac t),(4,VV.bp 0 0),(5,VV.bp 1 0),(9,VV.nl),(10,Aa (s.Procs.getD k.toNat default).Prio),(11,Aa (IntKind.i64.wrap (k+(1:Int))))] [Ob.box (Af m),Ob.box (Ae s)]))) (inX k s.Procs.length/\BB ((s.Procs.getD k.toNat default).Prio==most) ((out.length+1)*8<=140737488355328/\J (Av [(2,AR true l),(3,Ac t),(4,VV.bp 0 0),(5,VV.bp 1 0),(9,VV.ow 2 0 (out.length+1)),(10,Aa most),(11,Aa (IntKind.i64.wrap (k+(1:Int))))] [Ob.box (Af m),Ob.box (Ae s),Ob.arr true 0 (out.length+1) 1 fun(i:Nat)=>bif i.blt out.length then[Aa (out.getD i 0)] else(fun(i:Nat)=>List.take 1 (List.drop (i*1) [Aa k])) (i - out.length)])) (J (Th m s l t out most (IntKind.i64.wrap (k+(1:Int))))))))) (LQ (Ad true out) (Ad true r))):=by kernel_rfl
theorem AdG (r:D.State × ByteArray × Int)(m:D.Model)(s:D.State)(pid:Int)(t:ByteArray)(n:Int)(J:St->Prop):((fc B2 L0 Tryz.f44 [] (.tup [.agg (Ae r.1),AS r.2.1,Aa r.2.2])).loop [1,1,0,1,0] J).goal (AcU m s pid t n) =
  (BB (decide (n<=200)) (∃ (y:D.Loc × Bool),VC 45 [VV.agg (Af m),VV.agg (Ae s),Aa pid] (VV.tup [VV.agg (Bf y.fst),Ac y.snd])/\BB (bif !y.snd then true else !y.fst.Dstep) (LQ (VV.tup [VV.agg (Ae s),AS t,Aa 0]) (VV.tup [VV.agg (Ae r.fst),AS r.snd.fst,Aa r.snd.snd])) (∃ (y:List Wy),VC 18 [VV.agg [Az true m.Globals,Ad true m.Init,AX true m.Shapes,Ad true m.Chans,AM true m.Procs,Aa m.Claim,A7 true m.Exprs,Ad true s.Globals,AV true s.Chans,Ay true s.Procs,Aa s.Last,Aa s.Alone,Aa s.Claim,Aa pid,Ac false,VV.nl]] (BY true y)/\Aq ((fc B2 L0 Tryz.f44 [] (VV.tup [VV.agg (Ae r.fst),AS r.snd.fst,Aa r.snd.snd])).loop [1,1,0,1,0] J) [1,0,0,1,1,1,1,1,0,0] (Av [(2,Aa pid),(3,VV.bp 0 0),(4,VV.bp 1 0),(6,VV.bp 2 0),(9,AS t),(10,Aa n),(13,VV.bp 3 0),(14,BY true y),(15,Aa 0)] [Ob.box (Af m),Ob.box (Ae s),Ob.box [VV.nl,VV.nl,VV.nl,Aa 0,Aa 0,Aa 0],Ob.box [Az true m.Globals,Ad true m.Init,AX true m.Shapes,Ad true m.Chans,AM true m.Procs,Aa m.Claim,A7 true m.Exprs,Ad true s.Globals,AV true s.Chans,Ay true s.Procs,Aa s.Last,Aa s.Alone,Aa s.Claim,Aa pid,Ac false,VV.nl]]))) (LQ (VV.tup [VV.agg [VV.nl,VV.nl,VV.nl,Aa 0,Aa 0,Aa 0],AS (⟨#[]⟩:ByteArray),Aa 53]) (VV.tup [VV.agg (Ae r.fst),AS r.snd.fst,Aa r.snd.snd]))):=by kernel_rfl
theorem AdF (r:D.State × ByteArray × Int)(m:D.Model)(s:D.State)(pid:Int)(t:ByteArray)(n:Int)(e:D.Env)(w:List Wy)(k:Int)(J J2:St->Prop):(((fc B2 L0 Tryz.f44 [] (.tup [.agg (Ae r.1),AS r.2.1,Aa r.2.2])).loop [1,1,0,1,0] J).loop [1,0,0,1,1,1,1,1,0,0] J2).goal (YI m s pid t n e w k) =
  (((true&&decide (k<(↑w.length:Int))==true)=true->inX k w.length)/\BB (bif decide (k<(↑w.length:Int)) then decide ((w.getD k.toNat default).With>=0) else false) (J2 (YI m s pid t n e w (IntKind.i64.wrap (k+(1:Int))))) (BB (bif k==(↑w.length:Int) then true else n==200) (LQ (VV.tup [VV.agg [VV.nl,VV.nl,VV.nl,Aa 0,Aa 0,Aa 0],AS (⟨#[]⟩:ByteArray),Aa 53]) (VV.tup [VV.agg (Ae r.fst),AS r.snd.fst,Aa r.snd.snd])) (inX k w.length/\∃ (y:D.State × ByteArray × Int),VC 24 [VV.agg (Ah e),VV.agg (Bu (w.getD k.toNat default))] (VV.tup [VV.agg (Ae y.fst),AS y.snd.fst,Aa y.snd.snd])/\BB (y.snd.snd != 0) (LQ (VV.tup [VV.agg [VV.nl,VV.nl,VV.nl,Aa 0,Aa 0,Aa 0],AS (⟨#[]⟩:ByteArray),Aa y.snd.snd]) (VV.tup [VV.agg (Ae r.fst),AS r.snd.fst,Aa r.snd.snd])) ((↑(t.size+y.snd.fst.size):Int)<=(9223372036854775807:Int)/\J (AiH m y.fst pid (t++y.snd.fst) (IntKind.i64.wrap (n+(1:Int)))))))):=by kernel_rfl
theorem TV (r:List Nx)(m:D.Model)(s:D.State)(l:List Bool)(t:Bool)(q:List Int)(out:List Nx)(k:Int)(J:St->Prop):((fc B2 EE Tryz.f7 [] (BC true r)).loop [1,1,1,1,1,1,0,1,0] J).goal (YE m s l t q out k) =
  (BB (decide (k<(↑q.length:Int))) (inX k q.length/\∃ (y:List Wy),VC 18 [VV.agg [Az true m.Globals,Ad true m.Init,AX true m.Shapes,Ad true m.Chans,AM true m.Procs,Aa m.Claim,A7 true m.Exprs,Ad true s.Globals,AV true s.Chans,Ay true s.Procs,Aa s.Last,Aa s.Alone,Aa s.Claim,Aa (q.getD k.toNat 0),Ac t,AR true l]] (BY true y)/\Aq ((fc B2 EE Tryz.f7 [] (BC true r)).loop [1,1,1,1,1,1,0,1,0] J) [1,0,0,1,1,1,0] (Av [(2,VV.bp 0 0),(3,VV.bp 1 0),(5,AR true l),(6,Ac t),(7,Ad true q),(8,VV.ow 2 0 out.length),(9,Aa k),(10,VV.bp 3 0),(11,BY true y),(12,Aa 0)] [Ob.box (Af m),Ob.box (Ae s),Ob.arr true 0 out.length 15 (HY out),Ob.box [Az true m.Globals,Ad true m.Init,AX true m.Shapes,Ad true m.Chans,AM true m.Procs,Aa m.Claim,A7 true m.Exprs,Ad true s.Globals,AV true s.Chans,Ay true s.Procs,Aa s.Last,Aa s.Alone,Aa s.Claim,Aa (q.getD k.toNat 0),Ac t,AR true l]])) (LQ (BC true out) (BC true r))):=by kernel_rfl
theorem TU (r:List Nx)(m:D.Model)(s:D.State)(l:List Bool)(t:Bool)(q:List Int)(out:List Nx)(k:Int)(e:D.Env)(w:List Wy)(j:Int)(J J2:St->Prop):(((fc B2 EE Tryz.f7 [] (BC true r)).loop [1,1,1,1,1,1,0,1,0] J).loop [1,0,0,1,1,1,0] J2).goal (AcS m s l t q out k e w j) =
  (BB (decide (j<(↑w.length:Int))) (inX j w.length/\∃ (y:Nx),VC 19 [VV.agg (Ah e),VV.agg (Bu (w.getD j.toNat default))] (VV.agg (CI y))/\(out.length+1)*176<=140737488355328/\J2 (Av [(2,VV.bp 0 0),(3,VV.bp 1 0),(5,AR true l),(6,Ac t),(7,Ad true q),(8,VV.ow 2 0 (out.length+1)),(9,Aa k),(10,VV.bp 3 0),(11,BY true w),(12,Aa (IntKind.i64.wrap (j+(1:Int))))] [Ob.box (Af m),Ob.box (Ae s),Ob.arr true 0 (out.length+1) 15 fun(i:Nat)=>bif i.blt out.length then CI (out.getD i default) else(fun(i:Nat)=>List.take 15 (List.drop (i*15) (CI y))) (i - out.length),Ob.box (Ah e)])) (J (YE m s l t q out (IntKind.i64.wrap (k+(1:Int)))))):=by kernel_rfl
theorem Nd (r:D.State × Int)(e:D.Env)(s:D.Stmt)(m:List Int):((fc B2 Fu Tryz.f89 [] (.tup [.agg (Ae r.1),Aa r.2])).cut XF).goal (Aho e s m) =
  (∃ (y:D.State × Int),VC 126 [VV.agg (Ah e),VV.agg (Ar s),Ad true m] (VV.tup [VV.agg (Ae y.fst),Aa y.snd])/\LQ (VV.tup [VV.agg (Ae y.fst),Aa y.snd]) (VV.tup [VV.agg (Ae r.fst),Aa r.snd])):=by kernel_rfl
theorem W1 (r:D.State × ByteArray × Int)(e:D.Env)(s:D.Stmt):((fc B2 HF Tryz.f53 [] (.tup [.agg (Ae r.1),AS r.2.1,Aa r.2.2])).cut Ae8).goal (Ahp e s) =
  (∃ (y:D.State × Int),VC 90 [VV.agg (Ah e),Aa s.A,Aa (↑e.S.Chans.length:Int)] (VV.tup [VV.agg (Ae y.fst),Aa y.snd])/\LQ (VV.tup [VV.agg (Ae y.fst),AS (⟨#[]⟩:ByteArray),Aa y.snd]) (VV.tup [VV.agg (Ae r.fst),AS r.snd.fst,Aa r.snd.snd])):=by kernel_rfl
end Go.Proofs.YtlhajmkjfcbhnaaGreat
namespace Go.Proofs.YtlhajmkjfcbhnaaGreat
open Go.RowKit
def GM : Ann:={ keep:=fun
  | [0,0,1]=>[0,1]
  | [0,0,1,1]=>[0,1]
  | _=>[] }
def KR : Ann:={ keep:=fun
  | [0,1,0,1,1]=>[0,1,2,7]
  | _=>[] }
def MP : Ann:={ keep:=fun
  | [0,1,0,1]=>[1,2,3,4,9]
  | _=>[] }
def Gd : Ann:={ keep:=fun
  | [0,1,0,1,1,1,1,1,1,1]=>[2,7,9,12,13]
  | _=>[] }
def KN : Ann:={ keep:=fun
  | [0,1,0,1,1]=>[1,2,3,8,9]
  | _=>[] }
def MM : Ann:={ keep:=fun
  | [0,1,0,1,1,1,1,1,1,1,1]=>[3,8,9,10]
  | _=>[] }
def Bc : Ann:={ cut:=(fun | [1,1,1,1,1,0,1,0,1,1]=>true | [1,1,1,1,1,1,1,0,1,0,1,1]=>true | [1,1,1,1,1,1,1,1,1,0,1,0,1,1]=>true | [1,1,1,1,1,1,1,1,1,1,1,1,1,1,1,1,1,1,1,1,1,0,1,0,1,1]=>true | [1,1,1]=>true | _=>false),keep:=fun
  | [0,1,0,0,1,1,1,1,1,1,1,1,1,1,1,1,1,1,1,1,1,0,1,0,1,1]=>[2,14]
  | [1,1,1,1,1,0,1,0,1,1]=>[2,6,28,63]
  | [1,1,1,1,1,1,1,0,1,0,1,1]=>[2,6,28,86]
  | [1,1,1,1,1,1,1,1,1,0,1,0,1,1]=>[2,6,28,95]
  | [1,1,1,1,1,1,1,1,1,1,1,1,1,1,1,1,1,1,1,1,1,0,1,0,1,1]=>[2,6,28,156]
  | [1,1,1]=>[2,6]
  | _=>[] }
def KP : Ann:={ keep:=fun
  | [0,1,0,1,1,1]=>[3,4,5]
  | _=>[] }
def PB : Ann:={ keep:=fun
  | [0,1,0,1,1]=>[1,2,6,7]
  | _=>[] }
def Pz : Ann:={ keep:=fun
  | [0,1,0,1,1,1,1,1]=>[8,10,11,12]
  | _=>[] }
def HE : Ann:={ keep:=fun
  | [0,1,0,1,1,1,1]=>[1,2,3,9,10]
  | [0,1,0,1,1,0,0,1,0,0,1,0,1,1,1,1]=>[1,2,3,9,10,11,12,13]
  | _=>[] }
def KQ : Ann:={ keep:=fun
  | [0,1,0,1,1]=>[1,2,3,7,8]
  | _=>[] }
def ML : Ann:={ keep:=fun
  | [0,1,0,1]=>[1,2,3,7]
  | _=>[] }
def HG : Ann:={ keep:=fun
  | [0,1,0,1,1,1]=>[1,2,5,6,7]
  | [0,1,0,1,1,1,1]=>[1,5,6,9]
  | _=>[] }
def DR : Ann:={ keep:=fun
  | [0,1,0,1,1,1,1,1,1]=>[1,3,5,6,7]
  | [0,1,1,0,0,1,0,0,1,0,1,1,1,1,1,1]=>[1,3,5,6,7,8,9]
  | [0,1,1,1,0,0,1,0,0,1,1,0,0,1,0,0,1,0,1,1,1,1,1,1]=>[1,3,5,6,7,8,9,10,11]
  | _=>[] }
def MQ : Ann:={ keep:=fun
  | [0,1,0,1,1]=>[2,3,5,6]
  | _=>[] }
def Lk (a n:Int):St:=Av [(0,Aa a),(1,Aa n)] []
def YK (x l mt:List Int)(k:Int):St:=Av [(0,Ad true x),(1,Ad true l),(2,Ad true mt),(7,Aa k)] []
def YM (c:D.Chan)(l mt:List Int)(any:Bool)(k:Int):St:=Av [(1,Ad true l),(2,Ad true mt),(3,Ac any),(4,.bp 0 0),(9,Aa k)] [.box (Aw c)]
def J0 (e:D.Env)(v:D.Var)(who at' k:Int):St:=Av [(2,.bp 0 0),(7,.bp 1 0),(9,Aa who),(12,Aa at'),(13,Aa k)] [.box (Ah e),.box (BN v)]
def AcR (e:D.Env)(args mt out:List Int)(k:Int):St:=Av [(1,Ad true args),(2,Ad true mt),(3,.bp 0 0),(8,.ow 1 0 out.length),(9,Aa k)] [.box (Ah e),.arr true 0 out.length 1 (AJ out)]
def Tf (x:D.Expr)(at':Int)(some:Bool)(k:Int):St:=Av [(3,.bp 0 0),(8,Aa at'),(9,Ac some),(10,Aa k)] [.box (AE x)]
def Ti (e:D.Env)(k:Int):St:=Av [(2,.bp 0 0),(14,Aa k)] [.box (Ah e)]
def AcT (l:D.Loc)(out:List Int)(k:Int):St:=Av [(3,.bp 0 0),(4,.ow 1 0 out.length),(5,Aa k)] [.box (Bf l),.arr true 0 out.length 1 (AJ out)]
def YO (e:D.Env)(l out:List Int)(k:Int):St:=Av [(1,Ad true l),(2,.bp 0 0),(6,.ow 1 0 out.length),(7,Aa k)] [.box (Ah e),.arr true 0 out.length 1 (AJ out)]
def AcV (f:List D.Type)(l out:List Int)(k:Int):St:=Av [(8,Ad true l),(10,.ow 0 0 out.length),(11,Az true f),(12,Aa k)] [.arr true 0 out.length 1 (AJ out)]
def YG (e:D.Env)(c:Int)(m l:List Int)(k:Int):St:=Av [(1,Aa c),(2,Ad true m),(3,.bp 0 0),(9,Ad true l),(10,Aa k)] [.box (Ah e)]
def Te (e:D.Env)(c:Int)(m l:List Int)(k:Int)(t:List D.Trans)(out:List Pn)(j:Int):St:=Av [(1,Aa c),(2,Ad true m),(3,.bp 0 0),(9,Ad true l),(10,Aa k),(11,As true t),(12,.ow 1 0 out.length),(13,Aa j)] [.box (Ah e),.arr true 0 out.length 3 (ET out)]
def YJ (e:D.Env)(c:Int)(m:List Int)(out:List Pn)(k:Int):St:=Av [(1,Aa c),(2,Ad true m),(3,.bp 0 0),(7,.ow 1 0 out.length),(8,Aa k)] [.box (Ah e),.arr true 0 out.length 3 (ET out)]
def Td (e:D.Env)(ws:List D.Trans)(self:Bool)(k:Int):St:=Av [(1,As true ws),(2,Ac self),(3,.bp 0 0),(7,Aa k)] [.box (Ah e)]
def AcW (e:D.Env)(ws:List D.Trans)(out:List Ab)(any:Bool)(k:Int):St:=Av [(1,As true ws),(2,.bp 0 0),(5,.ow 1 0 out.length),(6,Ac any),(7,Aa k)] [.box (Ah e),.arr true 0 out.length 3 (Kk out)]
def Qk (ws:List D.Trans)(out:List Ab)(any:Bool)(k:Int):St:=Av [(1,As true ws),(5,.ow 0 0 out.length),(6,Ac any),(9,Aa k)] [.arr true 0 out.length 3 (Kk out)]
def Qj (e:D.Env)(op:Bool)(l:List Int)(out:List Wy)(k:Int):St:=Av [(1,.bp 0 0),(3,Ac op),(5,Ad true l),(6,.ow 1 0 out.length),(7,Aa k)] [.box (Ah e),.arr true 0 out.length 6 (Gp out)]
def M1 (e:D.Env)(op:Bool)(l:List Int)(out:List Wy)(k:Int)(c:List Ab)(j:Int):St:=Av [(1,.bp 0 0),(3,Ac op),(5,Ad true l),(6,.ow 1 0 out.length),(7,Aa k),(8,DK true c),(9,Aa j)] [.box (Ah e),.arr true 0 out.length 6 (Gp out)]
def Tc (e:D.Env)(op:Bool)(l:List Int)(out:List Wy)(k:Int)(c:List Ab)(j:Int)(w:Wy)(h:Int):St:=Av [(1,.bp 0 0),(3,Ac op),(5,Ad true l),(6,.ow 1 0 out.length),(7,Aa k),(8,DK true c),(9,Aa j),(10,.bp 2 0),(11,Aa h)] [.box (Ah e),.arr true 0 out.length 6 (Gp out),.box (Bu w)]
def AcZ (m:D.Model)(s:D.State)(out:List Bool)(k:Int):St:=Av [(2,.bp 0 0),(3,.bp 1 0),(5,.ow 2 0 out.length),(6,Aa k)] [.box (Af m),.box (Ae s),.arr true 0 out.length 1 (EU out)]
def HU (e:D.Env)(x:D.Expr)(i:Nat)(b:Bool):St:=Av [(2,.bp 0 0),(6,.bp 1 0),(28,Aa x.Op),(i,Ac b)] [.box (Ah e),.box (AE x)]
def AiE (e:D.Env)(x:D.Expr):St:=Av [(2,.bp 0 0),(6,.bp 1 0)] [.box (Ah e),.box (AE x)]
set_option maxRecDepth 100000
theorem WG (b:Bool)(t:D.Type):(fc A9 A5 Tryz.f157 [] (Ac b)).goal (St.init [] [.agg (Bs t)]) =
  (LQ (Ac (bif decide (t.Bits>=1) then decide (t.Bits<=32) else false)) (Ac b)):=by kernel_rfl
theorem AdK (r:Int)(t:D.Type)(v:Int):(fc A9 A5 Tryz.f129 [] (Aa r)).goal (St.init [] [.agg (Bs t),Aa v]) =
  (∃ (y:Bool),VC 157 [VV.agg (Bs t)] (Ac y)/\BB (!y) (LQ (Aa 0) (Aa r)) ((0:Int)<=IntKind.u64.wrap t.Bits/\IntKind.i64.wrap ((1:Int)*(2:Int) ^ min (IntKind.u64.wrap t.Bits).toNat IntKind.i64.bits)≠(0:Int)/\BB (decide (v.tmod (IntKind.i64.wrap ((1:Int)*(2:Int) ^ min (IntKind.u64.wrap t.Bits).toNat IntKind.i64.bits))<0)) (((true&&t.Signed==true)=true->(2:Int)≠(0:Int))/\BB (bif t.Signed then decide (IntKind.i64.wrap (v.tmod (IntKind.i64.wrap ((1:Int)*(2:Int) ^ min (IntKind.u64.wrap t.Bits).toNat IntKind.i64.bits))+IntKind.i64.wrap ((1:Int)*(2:Int) ^ min (IntKind.u64.wrap t.Bits).toNat IntKind.i64.bits))>=IntKind.i64.wrap ((IntKind.i64.wrap ((1:Int)*(2:Int) ^ min (IntKind.u64.wrap t.Bits).toNat IntKind.i64.bits)).tdiv (2:Int))) else false) (LQ (Aa (IntKind.i64.wrap (IntKind.i64.wrap (v.tmod (IntKind.i64.wrap ((1:Int)*(2:Int) ^ min (IntKind.u64.wrap t.Bits).toNat IntKind.i64.bits))+IntKind.i64.wrap ((1:Int)*(2:Int) ^ min (IntKind.u64.wrap t.Bits).toNat IntKind.i64.bits)) - IntKind.i64.wrap ((1:Int)*(2:Int) ^ min (IntKind.u64.wrap t.Bits).toNat IntKind.i64.bits)))) (Aa r)) (LQ (Aa (IntKind.i64.wrap (v.tmod (IntKind.i64.wrap ((1:Int)*(2:Int) ^ min (IntKind.u64.wrap t.Bits).toNat IntKind.i64.bits))+IntKind.i64.wrap ((1:Int)*(2:Int) ^ min (IntKind.u64.wrap t.Bits).toNat IntKind.i64.bits)))) (Aa r))) (((true&&t.Signed==true)=true->(2:Int)≠(0:Int))/\BB (bif t.Signed then decide (v.tmod (IntKind.i64.wrap ((1:Int)*(2:Int) ^ min (IntKind.u64.wrap t.Bits).toNat IntKind.i64.bits))>=IntKind.i64.wrap ((IntKind.i64.wrap ((1:Int)*(2:Int) ^ min (IntKind.u64.wrap t.Bits).toNat IntKind.i64.bits)).tdiv (2:Int))) else false) (LQ (Aa (IntKind.i64.wrap (v.tmod (IntKind.i64.wrap ((1:Int)*(2:Int) ^ min (IntKind.u64.wrap t.Bits).toNat IntKind.i64.bits)) - IntKind.i64.wrap ((1:Int)*(2:Int) ^ min (IntKind.u64.wrap t.Bits).toNat IntKind.i64.bits)))) (Aa r)) (LQ (Aa (v.tmod (IntKind.i64.wrap ((1:Int)*(2:Int) ^ min (IntKind.u64.wrap t.Bits).toNat IntKind.i64.bits)))) (Aa r))))):=by kernel_rfl
theorem AdJ (r:Int)(v:Int):(fc A9 A5 Tryz.f148 [] (Aa r)).goal (St.init [] [Aa v]) =
  (∃ (y:Int),VC 129 [VV.agg [Aa 32,Ac true],Aa v] (Aa y)/\LQ (Aa y) (Aa r)):=by kernel_rfl
theorem AaX (r:Int)(c:Bool):(fc A9 A5 Tryz.f149 [] (Aa r)).goal (St.init [] [Ac c]) =
  (BB c (LQ (Aa 1) (Aa r)) (LQ (Aa 0) (Aa r))):=by kernel_rfl
theorem Wx (r:Int)(a n:Int):(fc A9 GM Tryz.f151 [] (Aa r)).goal (St.init [] [Aa a,Aa n]) =
  (Aq (fc A9 GM Tryz.f151 [] (Aa r)) [1,0,0] (Lk a n)):=by kernel_rfl
theorem TQ (v r:Int)(op a b':Int):(fc A9 A5 Tryz.f112 [] (.tup [Aa v,Aa r])).goal (St.init [] [Aa op,Aa a,Aa b']) =
  (∃ (y:Int),VC 148 [Aa a] (Aa y)/\∃ (y_1:Int),VC 148 [Aa b'] (Aa y_1)/\BB (bif bif op==7 then true else op==8 then y_1==0 else false) (LQ (VV.tup [Aa 0,Aa 48]) (VV.tup [Aa v,Aa r])) (BB (op==6) (∃ (y_2:Int),VC 148 [Aa (IntKind.i64.wrap (y*y_1))] (Aa y_2)/\LQ (VV.tup [Aa y_2,Aa 0]) (VV.tup [Aa v,Aa r])) (BB (op==7) (y_1≠(0:Int)/\∃ (y_2:Int),VC 148 [Aa (IntKind.i64.wrap (y.tdiv y_1))] (Aa y_2)/\LQ (VV.tup [Aa y_2,Aa 0]) (VV.tup [Aa v,Aa r])) (BB (op==8) (y_1≠(0:Int)/\LQ (VV.tup [Aa (y.tmod y_1),Aa 0]) (VV.tup [Aa v,Aa r])) (BB (op==9) (∃ (y_2:Int),VC 148 [Aa (IntKind.i64.wrap (y+y_1))] (Aa y_2)/\LQ (VV.tup [Aa y_2,Aa 0]) (VV.tup [Aa v,Aa r])) (BB (op==10) (∃ (y_2:Int),VC 148 [Aa (IntKind.i64.wrap (y - y_1))] (Aa y_2)/\LQ (VV.tup [Aa y_2,Aa 0]) (VV.tup [Aa v,Aa r])) (BB (op==11) (∃ (y_2:Int),VC 151 [Aa y,Aa y_1] (Aa y_2)/\LQ (VV.tup [Aa y_2,Aa 0]) (VV.tup [Aa v,Aa r])) (BB (op==12) (∃ (y_2:Int),VC 151 [Aa y,Aa (IntKind.i64.wrap ((0:Int) - y_1))] (Aa y_2)/\LQ (VV.tup [Aa y_2,Aa 0]) (VV.tup [Aa v,Aa r])) (BB (op==13) (∃ (y_2:Int),VC 149 [Ac (decide (y<y_1))] (Aa y_2)/\LQ (VV.tup [Aa y_2,Aa 0]) (VV.tup [Aa v,Aa r])) (BB (op==14) (∃ (y_2:Int),VC 149 [Ac (decide (y<=y_1))] (Aa y_2)/\LQ (VV.tup [Aa y_2,Aa 0]) (VV.tup [Aa v,Aa r])) (BB (op==15) (∃ (y_2:Int),VC 149 [Ac (decide (y > y_1))] (Aa y_2)/\LQ (VV.tup [Aa y_2,Aa 0]) (VV.tup [Aa v,Aa r])) (BB (op==16) (∃ (y_2:Int),VC 149 [Ac (decide (y>=y_1))] (Aa y_2)/\LQ (VV.tup [Aa y_2,Aa 0]) (VV.tup [Aa v,Aa r])) (BB (op==17) (∃ (y_2:Int),VC 149 [Ac (y==y_1)] (Aa y_2)/\LQ (VV.tup [Aa y_2,Aa 0]) (VV.tup [Aa v,Aa r])) (BB (op==18) (∃ (y_2:Int),VC 149 [Ac (y != y_1)] (Aa y_2)/\LQ (VV.tup [Aa y_2,Aa 0]) (VV.tup [Aa v,Aa r])) (BB (op==19) (LQ (VV.tup [Aa (IntKind.i64.wrap (↑(BitVec.ofInt IntKind.i64.bits y &&& BitVec.ofInt IntKind.i64.bits y_1).toNat:Int)),Aa 0]) (VV.tup [Aa v,Aa r])) (BB (op==20) (LQ (VV.tup [Aa (IntKind.i64.wrap (↑(BitVec.ofInt IntKind.i64.bits y ^^^ BitVec.ofInt IntKind.i64.bits y_1).toNat:Int)),Aa 0]) (VV.tup [Aa v,Aa r])) (BB (op==21) (LQ (VV.tup [Aa (IntKind.i64.wrap (↑(BitVec.ofInt IntKind.i64.bits y ||| BitVec.ofInt IntKind.i64.bits y_1).toNat:Int)),Aa 0]) (VV.tup [Aa v,Aa r])) (LQ (VV.tup [Aa 0,Aa 42]) (VV.tup [Aa v,Aa r]))))))))))))))))))):=by kernel_rfl
theorem AdD (v r:Int)(op a:Int):(fc A9 A5 Tryz.f107 [] (.tup [Aa v,Aa r])).goal (St.init [] [Aa op,Aa a]) =
  (∃ (y:Int),VC 148 [Aa a] (Aa y)/\BB (op==3) (∃ (y_1:Int),VC 148 [Aa (IntKind.i64.wrap ((0:Int) - y))] (Aa y_1)/\LQ (VV.tup [Aa y_1,Aa 0]) (VV.tup [Aa v,Aa r])) (BB (op==4) (∃ (y_1:Int),VC 149 [Ac (y==0)] (Aa y_1)/\LQ (VV.tup [Aa y_1,Aa 0]) (VV.tup [Aa v,Aa r])) (BB (op==5) (LQ (VV.tup [Aa (IntKind.i64.wrap (IntKind.i64.wrap ((0:Int) - y) - (1:Int))),Aa 0]) (VV.tup [Aa v,Aa r])) (LQ (VV.tup [Aa 0,Aa 42]) (VV.tup [Aa v,Aa r]))))):=by kernel_rfl
theorem WR (b:Bool)(x l mt:List Int):(fc A9 KR Tryz.f153 [] (Ac b)).goal (St.init [] [Ad true x,Ad true l,Ad true mt]) =
  (BB (bif decide ((↑x.length:Int)<(↑mt.length:Int)) then true else decide ((↑l.length:Int)<(↑mt.length:Int))) (LQ (Ac false) (Ac b)) (Aq (fc A9 KR Tryz.f153 [] (Ac b)) [1,1,0,1,0] (YK x l mt (0:Int)))):=by kernel_rfl
theorem Aa2 (r:Int)(c:D.Chan)(l mt:List Int)(any:Bool):(fc A9 MP Tryz.f116 [] (Aa r)).goal (St.init [] [.agg (Aw c),Ad true l,Ad true mt,Ac any]) =
  (Aq (fc A9 MP Tryz.f116 [] (Aa r)) [1,0,1,0] (YM c l mt any (0:Int))):=by kernel_rfl
theorem AaW (r:Int)(c:Bool):(fc A9 A5 Tryz.f110 [] (Aa r)).goal (St.init [] [Ac c]) =
  (BB c (LQ (Aa 1) (Aa r)) (LQ (Aa 0) (Aa r))):=by kernel_rfl
theorem AaL (p k r:Int)(e:D.Env)(x:Int):(fc A9 Gd Tryz.f106 [] (.tup [Aa p,Aa k,Aa r])).goal (St.init [] [.agg (Ah e),Aa x]) =
  (inX x e.M.Exprs.length/\BB ((e.M.Exprs.getD x.toNat default).Op != 2) (LQ (VV.tup [Aa 0,Aa 0,Aa 42]) (VV.tup [Aa p,Aa k,Aa r])) (inX x e.M.Exprs.length/\∃ (y:Int),VC 136 [VV.agg (BN (e.M.Exprs.getD x.toNat default).V)] (Aa y)/\BB ((e.M.Exprs.getD x.toNat default).V.Scope==0) (BB (decide (y > (↑e.S.Globals.length:Int))) (LQ (VV.tup [Aa 0,Aa 0,Aa 42]) (VV.tup [Aa p,Aa k,Aa r])) (Aq (fc A9 Gd Tryz.f106 [] (VV.tup [Aa p,Aa k,Aa r])) [1,1,1,1,1,1,1,0,1,0] (J0 e (e.M.Exprs.getD x.toNat default).V (-1:Int) (e.M.Exprs.getD x.toNat default).V.Slot (0:Int)))) (BB ((e.M.Exprs.getD x.toNat default).V.Scope==1) (((true&&decide (e.Pid<0)==false)=true->inX e.Pid e.S.Procs.length)/\BB (bif decide (e.Pid<0) then true else decide (y > (↑(e.S.Procs.getD e.Pid.toNat default).Frame.length:Int))) (LQ (VV.tup [Aa 0,Aa 0,Aa 42]) (VV.tup [Aa p,Aa k,Aa r])) (Aq (fc A9 Gd Tryz.f106 [] (VV.tup [Aa p,Aa k,Aa r])) [1,1,1,1,1,1,1,0,1,0] (J0 e (e.M.Exprs.getD x.toNat default).V e.Pid (e.M.Exprs.getD x.toNat default).V.Slot (0:Int)))) (∃ (y_1:Int × Int),VC 67 [VV.agg (Ah e),Aa (e.M.Exprs.getD x.toNat default).V.Who] (vII y_1)/\BB (y_1.snd != 0) (LQ (VV.tup [Aa 0,Aa 0,Aa y_1.snd]) (VV.tup [Aa p,Aa k,Aa r])) (((true&&(bif decide (y_1.fst<0) then true else decide (y_1.fst>=(↑e.S.Procs.length:Int)))==false)=true->inX y_1.fst e.S.Procs.length)/\BB (bif bif decide (y_1.fst<0) then true else decide (y_1.fst>=(↑e.S.Procs.length:Int)) then true else(e.S.Procs.getD y_1.fst.toNat default).Type_ != (e.M.Exprs.getD x.toNat default).V.Type_) (LQ (VV.tup [Aa 0,Aa 0,Aa 52]) (VV.tup [Aa p,Aa k,Aa r])) (inX y_1.fst e.S.Procs.length/\BB (decide (y > (↑(e.S.Procs.getD y_1.fst.toNat default).Frame.length:Int))) (LQ (VV.tup [Aa 0,Aa 0,Aa 42]) (VV.tup [Aa p,Aa k,Aa r])) (Aq (fc A9 Gd Tryz.f106 [] (VV.tup [Aa p,Aa k,Aa r])) [1,1,1,1,1,1,1,0,1,0] (J0 e (e.M.Exprs.getD x.toNat default).V y_1.fst (e.M.Exprs.getD x.toNat default).V.Slot (0:Int))))))))):=by kernel_rfl
theorem Aa6 (v r:Int)(e:D.Env)(x:Int):(fc A9 A5 Tryz.f150 [] (.tup [Aa v,Aa r])).goal (St.init [] [.agg (Ah e),Aa x]) =
  (∃ (y:Int × Int),VC 67 [VV.agg (Ah e),Aa x] (vII y)/\BB (y.snd != 0) (LQ (VV.tup [Aa 0,Aa y.snd]) (VV.tup [Aa v,Aa r])) (BB (bif decide (y.fst<1) then true else decide (y.fst > (↑e.S.Chans.length:Int))) (LQ (VV.tup [Aa 0,Aa 49]) (VV.tup [Aa v,Aa r])) (LQ (VV.tup [Aa y.fst,Aa 0]) (VV.tup [Aa v,Aa r])))):=by kernel_rfl
theorem Wo (r:List Int × Int)(e:D.Env)(args mt:List Int):(fc A9 KN Tryz.f115 [] (.tup [Ad true r.1,Aa r.2])).goal (St.init [] [.agg (Ah e),Ad true args,Ad true mt]) =
  (Aq (fc A9 KN Tryz.f115 [] (VV.tup [Ad true r.fst,Aa r.snd])) [1,1,0,1,0] (Av [(1,Ad true args),(2,Ad true mt),(3,VV.bp 0 0),(8,VV.nl),(9,Aa 0)] [Ob.box (Ah e)])):=by kernel_rfl
theorem Aa9 (v r:Int)(e:D.Env)(x:D.Expr):(fc A9 A5 Tryz.f109 [] (.tup [Aa v,Aa r])).goal (St.init [] [.agg (Ah e),.agg (AE x)]) =
  (∃ (y:Int × Int),VC 150 [VV.agg (Ah e),Aa x.A] (vII y)/\BB (y.snd != 0) (LQ (VV.tup [Aa 0,Aa y.snd]) (VV.tup [Aa v,Aa r])) (inX (IntKind.i64.wrap (y.fst - (1:Int))) e.S.Chans.length/\inX (e.S.Chans.getD (IntKind.i64.wrap (y.fst - (1:Int))).toNat default).Shape e.M.Shapes.length/\BB (x.Op==25) (LQ (VV.tup [Aa (↑(e.S.Chans.getD (IntKind.i64.wrap (y.fst - (1:Int))).toNat default).Queue.length:Int),Aa 0]) (VV.tup [Aa v,Aa r])) (BB (x.Op==26) (∃ (y_1:Int),VC 110 [Ac (decide ((↑(e.S.Chans.getD (IntKind.i64.wrap (y.fst - (1:Int))).toNat default).Queue.length:Int)>=(e.M.Shapes.getD (e.S.Chans.getD (IntKind.i64.wrap (y.fst - (1:Int))).toNat default).Shape.toNat default).Room))] (Aa y_1)/\LQ (VV.tup [Aa y_1,Aa 0]) (VV.tup [Aa v,Aa r])) (BB (x.Op==27) (∃ (y_1:Int),VC 110 [Ac ((↑(e.S.Chans.getD (IntKind.i64.wrap (y.fst - (1:Int))).toNat default).Queue.length:Int)==0)] (Aa y_1)/\LQ (VV.tup [Aa y_1,Aa 0]) (VV.tup [Aa v,Aa r])) (BB (x.Op==28) (∃ (y_1:Int),VC 110 [Ac (decide ((↑(e.S.Chans.getD (IntKind.i64.wrap (y.fst - (1:Int))).toNat default).Queue.length:Int)<(e.M.Shapes.getD (e.S.Chans.getD (IntKind.i64.wrap (y.fst - (1:Int))).toNat default).Shape.toNat default).Room))] (Aa y_1)/\LQ (VV.tup [Aa y_1,Aa 0]) (VV.tup [Aa v,Aa r])) (BB (x.Op==29) (∃ (y_1:Int),VC 110 [Ac (decide ((↑(e.S.Chans.getD (IntKind.i64.wrap (y.fst - (1:Int))).toNat default).Queue.length:Int) > 0))] (Aa y_1)/\LQ (VV.tup [Aa y_1,Aa 0]) (VV.tup [Aa v,Aa r])) (BB ((↑(e.M.Shapes.getD (e.S.Chans.getD (IntKind.i64.wrap (y.fst - (1:Int))).toNat default).Shape.toNat default).Fields.length:Int) != (↑x.Args.length:Int)) (LQ (VV.tup [Aa 0,Aa 49]) (VV.tup [Aa v,Aa r])) (∃ (y_1:List Int × Int),VC 115 [VV.agg (Ah e),Ad true x.Args,Ad true x.Match] (VV.tup [Ad true y_1.fst,Aa y_1.snd])/\BB (y_1.snd != 0) (LQ (VV.tup [Aa 0,Aa y_1.snd]) (VV.tup [Aa v,Aa r])) (∃ (y_2:Int),VC 116 [VV.agg (Aw (e.S.Chans.getD (IntKind.i64.wrap (y.fst - (1:Int))).toNat default)),Ad true y_1.fst,Ad true x.Match,Ac (x.N==1)] (Aa y_2)/\∃ (y:Int),VC 110 [Ac (decide (y_2>=0))] (Aa y)/\LQ (VV.tup [Aa y,Aa 0]) (VV.tup [Aa v,Aa r])))))))))):=by kernel_rfl
theorem AaU (v r:Int)(e:D.Env)(x:D.Expr):(fc A9 MM Tryz.f111 [] (.tup [Aa v,Aa r])).goal (St.init [] [.agg (Ah e),.agg (AE x)]) =
  (∃ (y:Int × Int),VC 67 [VV.agg (Ah e),Aa x.A] (vII y)/\BB (y.snd != 0) (LQ (VV.tup [Aa 0,Aa y.snd]) (VV.tup [Aa v,Aa r])) (BB (x.Op==36) (((true&&(bif decide (y.fst>=0) then decide (y.fst<(↑e.Able.length:Int)) else false)==true)=true->inX y.fst e.Able.length)/\∃ (y_1:Int),VC 110 [Ac (bif bif decide (y.fst>=0) then decide (y.fst<(↑e.Able.length:Int)) else false then e.Able.getD y.fst.toNat false else false)] (Aa y_1)/\LQ (VV.tup [Aa y_1,Aa 0]) (VV.tup [Aa v,Aa r])) (((true&&(bif decide (y.fst<0) then true else decide (y.fst>=(↑e.S.Procs.length:Int)))==false&&(x.Op==38)==true)=true->inX y.fst e.S.Procs.length)/\BB (bif bif decide (y.fst<0) then true else decide (y.fst>=(↑e.S.Procs.length:Int)) then true else bif x.Op==38 then(e.S.Procs.getD y.fst.toNat default).Type_ != x.N else false) (LQ (VV.tup [Aa 0,Aa 52]) (VV.tup [Aa v,Aa r])) (inX y.fst e.S.Procs.length/\BB (x.Op==37) (LQ (VV.tup [Aa (e.S.Procs.getD y.fst.toNat default).Loc,Aa 0]) (VV.tup [Aa v,Aa r])) (Aq (fc A9 MM Tryz.f111 [] (VV.tup [Aa v,Aa r])) [1,1,1,1,1,1,1,1,0,1,0] (Tf x (e.S.Procs.getD y.fst.toNat default).Loc false (0:Int))))))):=by kernel_rfl
theorem WS (v r:Int)(e:D.Env)(x:D.Expr):(fc A9 A5 Tryz.f108 [] (.tup [Aa v,Aa r])).goal (St.init [] [.agg (Ah e),.agg (AE x)]) =
  (∃ (y:Int × Int),VC 67 [VV.agg (Ah e),Aa x.A] (vII y)/\BB (y.snd != 0) (LQ (VV.tup [Aa 0,Aa y.snd]) (VV.tup [Aa v,Aa r])) (BB (bif x.Op==24 then y.fst != 0 else false) (∃ (y:Int × Int),VC 67 [VV.agg (Ah e),Aa x.B] (vII y)/\LQ (vII y) (VV.tup [Aa v,Aa r])) (BB (x.Op==24) (∃ (y:Int × Int),VC 67 [VV.agg (Ah e),Aa x.C] (vII y)/\LQ (vII y) (VV.tup [Aa v,Aa r])) (BB (bif x.Op==22 then y.fst==0 else false) (LQ (VV.tup [Aa 0,Aa 0]) (VV.tup [Aa v,Aa r])) (BB (bif x.Op==23 then y.fst != 0 else false) (LQ (VV.tup [Aa 1,Aa 0]) (VV.tup [Aa v,Aa r])) (∃ (y:Int × Int),VC 67 [VV.agg (Ah e),Aa x.B] (vII y)/\BB (y.snd != 0) (LQ (VV.tup [Aa 0,Aa y.snd]) (VV.tup [Aa v,Aa r])) (∃ (y_1:Int),VC 110 [Ac (y.fst != 0)] (Aa y_1)/\LQ (VV.tup [Aa y_1,Aa 0]) (VV.tup [Aa v,Aa r])))))))):=by kernel_rfl
theorem Aa3 (v r:Int)(e:D.Env)(x:Int):(fc A9 Bc Tryz.f67 [] (.tup [Aa v,Aa r])).goal (St.init [] [.agg (Ah e),Aa x]) =
  (inX x e.M.Exprs.length/\BB ((e.M.Exprs.getD x.toNat default).Op==1) (LQ (VV.tup [Aa (e.M.Exprs.getD x.toNat default).N,Aa 0]) (VV.tup [Aa v,Aa r])) (BB ((e.M.Exprs.getD x.toNat default).Op==2) (∃ (y:Int × Int × Int),VC 106 [VV.agg (Ah e),Aa x] (AcE y)/\BB (y.snd.snd != 0) (LQ (VV.tup [Aa 0,Aa y.snd.snd]) (VV.tup [Aa v,Aa r])) (BB (decide (y.fst<0)) (inX y.snd.fst e.S.Globals.length/\LQ (VV.tup [Aa (e.S.Globals.getD y.snd.fst.toNat 0),Aa 0]) (VV.tup [Aa v,Aa r])) (inX y.fst e.S.Procs.length/\inX y.snd.fst (e.S.Procs.getD y.fst.toNat default).Frame.length/\LQ (VV.tup [Aa ((e.S.Procs.getD y.fst.toNat default).Frame.getD y.snd.fst.toNat 0),Aa 0]) (VV.tup [Aa v,Aa r])))) (BB ((e.M.Exprs.getD x.toNat default).Op==3) (Aq (fc A9 Bc Tryz.f67 [] (VV.tup [Aa v,Aa r])) [1,1,0,1,0,1,1,1,1,1] (HU e (e.M.Exprs.getD x.toNat default) 63 ((e.M.Exprs.getD x.toNat default).Op==3))) (BB ((e.M.Exprs.getD x.toNat default).Op==4) (Aq (fc A9 Bc Tryz.f67 [] (VV.tup [Aa v,Aa r])) [1,1,0,1,0,1,1,1,1,1] (HU e (e.M.Exprs.getD x.toNat default) 63 ((e.M.Exprs.getD x.toNat default).Op==4))) (Aq (fc A9 Bc Tryz.f67 [] (VV.tup [Aa v,Aa r])) [1,1,0,1,0,1,1,1,1,1] (HU e (e.M.Exprs.getD x.toNat default) 63 ((e.M.Exprs.getD x.toNat default).Op==5))))))):=by kernel_rfl
theorem WO (r:List Int)(e:D.Env):(fc A9 KP Tryz.f41 [] (Ad true r)).goal (St.init [] [.agg (Ah e)]) =
  (∃ (y:D.Proc),VC 38 [VV.agg (Ah e)] (VV.agg (AO y))/\inX e.Pid e.S.Procs.length/\inX (e.S.Procs.getD e.Pid.toNat default).Loc y.Locs.length/\Aq (fc A9 KP Tryz.f41 [] (Ad true r)) [1,1,1,0,1,0] (Av [(3,VV.bp 0 0),(4,VV.nl),(5,Aa 0)] [Ob.box (Bf (y.Locs.getD (e.S.Procs.getD e.Pid.toNat default).Loc.toNat default))])):=by kernel_rfl
theorem AdB (b:Bool)(e:D.Env)(x:Int):(fc A9 A5 Tryz.f83 [] (Ac b)).goal (St.init [] [.agg (Ah e),Aa x]) =
  (((true&&decide (x>=0)==true)=true->inX x e.M.Exprs.length)/\LQ (Ac (bif decide (x>=0) then(e.M.Exprs.getD x.toNat default).Op==39 else false)) (Ac b)):=by kernel_rfl
theorem AdR (r:List Int × Int)(e:D.Env)(l:List Int):(fc A9 PB Tryz.f86 [] (.tup [Ad true r.1,Aa r.2])).goal (St.init [] [.agg (Ah e),Ad true l]) =
  (Aq (fc A9 PB Tryz.f86 [] (VV.tup [Ad true r.fst,Aa r.snd])) [1,1,0,1,0] (Av [(1,Ad true l),(2,VV.bp 0 0),(6,VV.nl),(7,Aa 0)] [Ob.box (Ah e)])):=by kernel_rfl
theorem TR (v r:Int)(e:D.Env)(s:D.Stmt):(fc A9 A5 Tryz.f114 [] (.tup [Aa v,Aa r])).goal (St.init [] [.agg (Ah e),.agg (Ar s)]) =
  (∃ (y:Int × Int),VC 150 [VV.agg (Ah e),Aa s.A] (vII y)/\BB (y.snd != 0) (LQ (VV.tup [Aa 0,Aa y.snd]) (VV.tup [Aa v,Aa r])) (inX (IntKind.i64.wrap (y.fst - (1:Int))) e.S.Chans.length/\inX (e.S.Chans.getD (IntKind.i64.wrap (y.fst - (1:Int))).toNat default).Shape e.M.Shapes.length/\BB ((↑(e.M.Shapes.getD (e.S.Chans.getD (IntKind.i64.wrap (y.fst - (1:Int))).toNat default).Shape.toNat default).Fields.length:Int) != (↑s.Args.length:Int)) (LQ (VV.tup [Aa 0,Aa 49]) (VV.tup [Aa v,Aa r])) (LQ (VV.tup [Aa y.fst,Aa 0]) (VV.tup [Aa v,Aa r])))):=by kernel_rfl
theorem AdH (r:List Int × Int)(e:D.Env)(s:D.Stmt)(c:Int):(fc A9 Pz Tryz.f125 [] (.tup [Ad true r.1,Aa r.2])).goal (St.init [] [.agg (Ah e),.agg (Ar s),Aa c]) =
  (∃ (y:List Int × Int),VC 86 [VV.agg (Ah e),Ad true s.Args] (VV.tup [Ad true y.fst,Aa y.snd])/\BB (y.snd != 0) (LQ (VV.tup [VV.nl,Aa y.snd]) (VV.tup [Ad true r.fst,Aa r.snd])) (inX (IntKind.i64.wrap (c - (1:Int))) e.S.Chans.length/\inX (e.S.Chans.getD (IntKind.i64.wrap (c - (1:Int))).toNat default).Shape e.M.Shapes.length/\Aq (fc A9 Pz Tryz.f125 [] (VV.tup [Ad true r.fst,Aa r.snd])) [1,1,1,1,1,0,1,0] (Av [(8,Ad true y.fst),(10,VV.nl),(11,Az true (e.M.Shapes.getD (e.S.Chans.getD (IntKind.i64.wrap (c - (1:Int))).toNat default).Shape.toNat default).Fields),(12,Aa 0)] []))):=by kernel_rfl
theorem AaT (r:Bool × Int)(e:D.Env):(fc A9 A5 Tryz.f40 [] (.tup [Ac r.1,Aa r.2])).goal (St.init [] [.agg (Ah e)]) =
  (∃ (y:D.Proc),VC 38 [VV.agg (Ah e)] (VV.agg (AO y))/\BB (decide (y.Provided<0)) (LQ (VV.tup [Ac true,Aa 0]) (VV.tup (Sn r))) (∃ (y_1:Int × Int),VC 67 [VV.agg (Ah e),Aa y.Provided] (vII y_1)/\LQ (VV.tup [Ac (y_1.fst != 0),Aa y_1.snd]) (VV.tup (Sn r)))):=by kernel_rfl
theorem Wq (b:Bool)(e:D.Env)(s:D.Stmt)(c:Int)(m:List Int):(fc A9 A5 Tryz.f164 [] (Ac b)).goal (St.init [] [.agg (Ah e),.agg (Ar s),Aa c,Ad true m]) =
  (BB (bif bif s.Kind != 6 then true else decide (s.N > 1) then true else(↑s.Args.length:Int) != (↑m.length:Int)) (LQ (Ac false) (Ac b)) (∃ (y:Int × Int),VC 150 [VV.agg (Ah e),Aa s.A] (vII y)/\BB (bif y.snd != 0 then true else y.fst != c) (LQ (Ac false) (Ac b)) (∃ (y:List Int × Int),VC 115 [VV.agg (Ah e),Ad true s.Args,Ad true s.Match] (VV.tup [Ad true y.fst,Aa y.snd])/\BB (y.snd != 0) (LQ (Ac false) (Ac b)) (∃ (y_1:Bool),VC 153 [Ad true m,Ad true y.fst,Ad true s.Match] (Ac y_1)/\LQ (Ac y_1) (Ac b))))):=by kernel_rfl
theorem AaP (r:List Pn)(e:D.Env)(c:Int)(m:List Int):(fc A9 HE Tryz.f163 [] (Cl true r)).goal (St.init [] [.agg (Ah e),Aa c,Ad true m]) =
  (∃ (y:Bool × Int),VC 40 [VV.agg (Ah e)] (VV.tup (Sn y))/\BB (bif !y.fst then true else y.snd != 0) (LQ VV.nl (Cl true r)) (∃ (y:List Int),VC 41 [VV.agg (Ah e)] (Ad true y)/\Aq (fc A9 HE Tryz.f163 [] (Cl true r)) [1,1,1,1,0,1,0] (YG e c m y (0:Int)))):=by kernel_rfl
theorem WQ (r:List Pn)(e:D.Env)(c:Int)(m:List Int):(fc A9 KQ Tryz.f152 [] (Cl true r)).goal (St.init [] [.agg (Ah e),Aa c,Ad true m]) =
  (Aq (fc A9 KQ Tryz.f152 [] (Cl true r)) [1,1,0,1,0] (Av [(1,Aa c),(2,Ad true m),(3,VV.bp 0 0),(7,VV.nl),(8,Aa 0)] [Ob.box (Ah e)])):=by kernel_rfl
theorem AaN (r:Ab)(e:D.Env)(s:D.Stmt)(self:Bool):(fc A9 A5 Tryz.f113 [] (.agg (BO r))).goal (St.init [] [.agg (Ah e),.agg (Ar s),Ac self]) =
  (∃ (y:Int × Int),VC 114 [VV.agg (Ah e),VV.agg (Ar s)] (vII y)/\BB (y.snd != 0) (LQ (VV.agg [Ac true,Aa y.snd,VV.nl]) (VV.agg (BO r))) (inX (IntKind.i64.wrap (y.fst - (1:Int))) e.S.Chans.length/\inX (e.S.Chans.getD (IntKind.i64.wrap (y.fst - (1:Int))).toNat default).Shape e.M.Shapes.length/\BB (decide ((e.M.Shapes.getD (e.S.Chans.getD (IntKind.i64.wrap (y.fst - (1:Int))).toNat default).Shape.toNat default).Room > 0)) (LQ (VV.agg [Ac (decide ((↑(e.S.Chans.getD (IntKind.i64.wrap (y.fst - (1:Int))).toNat default).Queue.length:Int)<(e.M.Shapes.getD (e.S.Chans.getD (IntKind.i64.wrap (y.fst - (1:Int))).toNat default).Shape.toNat default).Room)),Aa 0,VV.nl]) (VV.agg (BO r))) (BB self (LQ (VV.agg [Ac false,Aa 0,VV.nl]) (VV.agg (BO r))) (∃ (y_1:List Int × Int),VC 125 [VV.agg (Ah e),VV.agg (Ar s),Aa y.fst] (VV.tup [Ad true y_1.fst,Aa y_1.snd])/\BB (y_1.snd != 0) (LQ (VV.agg [Ac true,Aa y_1.snd,VV.nl]) (VV.agg (BO r))) (∃ (y_2:List Pn),VC 152 [VV.agg (Ah e),Aa y.fst,Ad true y_1.fst] (Cl true y_2)/\LQ (VV.agg [Ac (decide ((↑y_2.length:Int) > 0)),Aa 0,Cl true y_2]) (VV.agg (BO r))))))):=by kernel_rfl
theorem AaI (r:Ab)(e:D.Env)(s:D.Stmt)(self:Bool):(fc A9 A5 Tryz.f68 [] (.agg (BO r))).goal (St.init [] [.agg (Ah e),.agg (Ar s),Ac self]) =
  (∃ (y:Bool),VC 83 [VV.agg (Ah e),Aa s.A] (Ac y)/\∃ (y_1:Bool),VC 83 [VV.agg (Ah e),Aa s.B] (Ac y_1)/\BB (s.Kind==1) (BB y (LQ (VV.agg [Ac (decide ((↑e.S.Procs.length:Int)<16)),Aa 0,VV.nl]) (VV.agg (BO r))) (∃ (y:Int × Int),VC 67 [VV.agg (Ah e),Aa s.A] (vII y)/\LQ (VV.agg [Ac (bif y.snd != 0 then true else y.fst != 0),Aa y.snd,VV.nl]) (VV.agg (BO r)))) (BB (s.Kind==2) (BB y_1 (LQ (VV.agg [Ac (decide ((↑e.S.Procs.length:Int)<16)),Aa 0,VV.nl]) (VV.agg (BO r))) (LQ (VV.agg [Ac true,Aa 0,VV.nl]) (VV.agg (BO r)))) (BB (s.Kind==5) (∃ (y:Ab),VC 113 [VV.agg (Ah e),VV.agg (Ar s),Ac self] (VV.agg (BO y))/\LQ (VV.agg (BO y)) (VV.agg (BO r))) (BB (s.Kind==6) (∃ (y:Int × Int),VC 114 [VV.agg (Ah e),VV.agg (Ar s)] (vII y)/\BB (y.snd != 0) (LQ (VV.agg [Ac true,Aa y.snd,VV.nl]) (VV.agg (BO r))) (∃ (y_2:List Int × Int),VC 115 [VV.agg (Ah e),Ad true s.Args,Ad true s.Match] (VV.tup [Ad true y_2.fst,Aa y_2.snd])/\BB (y_2.snd != 0) (LQ (VV.agg [Ac true,Aa y_2.snd,VV.nl]) (VV.agg (BO r))) (inX (IntKind.i64.wrap (y.fst - (1:Int))) e.S.Chans.length/\∃ (y_3:Int),VC 116 [VV.agg (Aw (e.S.Chans.getD (IntKind.i64.wrap (y.fst - (1:Int))).toNat default)),Ad true y_2.fst,Ad true s.Match,Ac (bif s.N==1 then true else s.N==3)] (Aa y_3)/\LQ (VV.agg [Ac (decide (y_3>=0)),Aa 0,VV.nl]) (VV.agg (BO r))))) (BB (s.Kind==7) (LQ (VV.agg [Ac false,Aa 0,VV.nl]) (VV.agg (BO r))) (BB (s.Kind==9) (LQ (VV.agg [Ac (decide ((↑e.S.Chans.length:Int)<32)),Aa 0,VV.nl]) (VV.agg (BO r))) (LQ (VV.agg [Ac true,Aa 0,VV.nl]) (VV.agg (BO r))))))))):=by kernel_rfl
theorem AaK (b:Bool)(e:D.Env)(ws:List D.Trans)(self:Bool):(fc A9 ML Tryz.f165 [] (Ac b)).goal (St.init [] [.agg (Ah e),As true ws,Ac self]) =
  (Aq (fc A9 ML Tryz.f165 [] (Ac b)) [1,0,1,0] (Td e ws self (0:Int))):=by kernel_rfl
theorem Aa7 (r:List Ab)(e:D.Env)(ws:List D.Trans):(fc A9 HG Tryz.f42 [] (DK true r)).goal (St.init [] [.agg (Ah e),As true ws]) =
  (Aq (fc A9 HG Tryz.f42 [] (DK true r)) [1,1,1,0,1,0] (Av [(1,As true ws),(2,VV.bp 0 0),(5,VV.nl),(6,Ac false),(7,Aa 0)] [Ob.box (Ah e)])):=by kernel_rfl
theorem T4 (r:Wy)(err:Int):(fc A9 A5 Tryz.f39 [] (.agg (Bu r))).goal (St.init [] [Aa err]) =
  (LQ (VV.agg [Aa (-1),Aa (-1),Aa (-1),Aa (-1),Aa (-1),Aa err]) (VV.agg (Bu r))):=by kernel_rfl
theorem AaD (r:D.Env)(e:D.Env)(p:Int):(fc A9 A5 Tryz.f54 [] (.agg (Ah r))).goal (St.init [] [.agg (Ah e),Aa p]) =
  (LQ (VV.agg [Az true e.M.Globals,Ad true e.M.Init,AX true e.M.Shapes,Ad true e.M.Chans,AM true e.M.Procs,Aa e.M.Claim,A7 true e.M.Exprs,Ad true e.S.Globals,AV true e.S.Chans,Ay true e.S.Procs,Aa e.S.Last,Aa e.S.Alone,Aa e.S.Claim,Aa p,Ac e.Timeout,AR true e.Able]) (VV.agg (Ah r))):=by kernel_rfl
theorem AaE (r:List Wy)(e:D.Env):(fc A9 DR Tryz.f18 [] (BY true r)).goal (St.init [] [.agg (Ah e)]) =
  (inX e.Pid e.S.Procs.length/\∃ (y:D.Proc),VC 38 [VV.agg (Ah e)] (VV.agg (AO y))/\BB ((e.S.Procs.getD e.Pid.toNat default).Loc==y.Final) (BB (e.Pid==IntKind.i64.wrap ((↑e.S.Procs.length:Int) - (1:Int))) (∃ (y:Wy),VC 39 [Aa 0] (VV.agg (Bu y))/\LQ (VV.sl true 1 6 fun(i:Nat)=>List.take 6 (List.drop (i*6) (Bu y))) (BY true r)) (LQ VV.nl (BY true r))) (∃ (y:Bool × Int),VC 40 [VV.agg (Ah e)] (VV.tup (Sn y))/\BB (y.snd != 0) (∃ (y_1:Wy),VC 39 [Aa y.snd] (VV.agg (Bu y_1))/\LQ (VV.sl true 1 6 fun(i:Nat)=>List.take 6 (List.drop (i*6) (Bu y_1))) (BY true r)) (∃ (y_1:List Int),VC 41 [VV.agg (Ah e)] (Ad true y_1)/\Aq (fc A9 DR Tryz.f18 [] (BY true r)) [1,1,1,1,1,1,0,1,0] (Av [(1,VV.bp 0 0),(3,Ac y.fst),(5,Ad true y_1),(6,VV.nl),(7,Aa 0)] [Ob.box (Ah e)])))):=by kernel_rfl
theorem Abb (r:List Bool)(m:D.Model)(s:D.State):(fc A9 MQ Tryz.f16 [] (AR true r)).goal (St.init [] [.agg (Af m),.agg (Ae s)]) =
  (Aq (fc A9 MQ Tryz.f16 [] (AR true r)) [1,1,0,1,0] (Av [(2,VV.bp 0 0),(3,VV.bp 1 0),(5,VV.nl),(6,Aa 0)] [Ob.box (Af m),Ob.box (Ae s)])):=by kernel_rfl
theorem AdP (v r:Int)(e:D.Env)(x:D.Expr)(b:Bool):((fc A9 Bc Tryz.f67 [] (.tup [Aa v,Aa r])).cut [1,1,0,1,0,1,1,1,1,1]).goal (HU e x 63 b) =
  (BB b (∃ (y:Int × Int),VC 67 [VV.agg (Ah e),Aa x.A] (vII y)/\BB (y.snd != 0) (LQ (VV.tup [Aa 0,Aa y.snd]) (VV.tup [Aa v,Aa r])) (∃ (y_1:Int × Int),VC 107 [Aa x.Op,Aa y.fst] (vII y_1)/\LQ (vII y_1) (VV.tup [Aa v,Aa r]))) (BB (x.Op==22) (Aq ((fc A9 Bc Tryz.f67 [] (VV.tup [Aa v,Aa r])).cut [1,1,0,1,0,1,1,1,1,1]) [1,1] (HU e x 86 (x.Op==22))) (BB (x.Op==23) (Aq ((fc A9 Bc Tryz.f67 [] (VV.tup [Aa v,Aa r])).cut [1,1,0,1,0,1,1,1,1,1]) [1,1] (HU e x 86 (x.Op==23))) (Aq ((fc A9 Bc Tryz.f67 [] (VV.tup [Aa v,Aa r])).cut [1,1,0,1,0,1,1,1,1,1]) [1,1] (HU e x 86 (x.Op==24)))))):=by kernel_rfl
theorem AdO (v r:Int)(e:D.Env)(x:D.Expr)(b:Bool):((fc A9 Bc Tryz.f67 [] (.tup [Aa v,Aa r])).cut [1,1,0,1,0,1,1,1,1,1,1,1]).goal (HU e x 86 b) =
  (BB b (∃ (y:Int × Int),VC 108 [VV.agg (Ah e),VV.agg (AE x)] (vII y)/\LQ (vII y) (VV.tup [Aa v,Aa r])) (BB (x.Op==25) (Aq ((fc A9 Bc Tryz.f67 [] (VV.tup [Aa v,Aa r])).cut [1,1,0,1,0,1,1,1,1,1,1,1]) [1,1] (HU e x 95 (x.Op==25))) (BB (x.Op==26) (Aq ((fc A9 Bc Tryz.f67 [] (VV.tup [Aa v,Aa r])).cut [1,1,0,1,0,1,1,1,1,1,1,1]) [1,1] (HU e x 95 (x.Op==26))) (BB (x.Op==27) (Aq ((fc A9 Bc Tryz.f67 [] (VV.tup [Aa v,Aa r])).cut [1,1,0,1,0,1,1,1,1,1,1,1]) [1,1] (HU e x 95 (x.Op==27))) (BB (x.Op==28) (Aq ((fc A9 Bc Tryz.f67 [] (VV.tup [Aa v,Aa r])).cut [1,1,0,1,0,1,1,1,1,1,1,1]) [1,1] (HU e x 95 (x.Op==28))) (BB (x.Op==29) (Aq ((fc A9 Bc Tryz.f67 [] (VV.tup [Aa v,Aa r])).cut [1,1,0,1,0,1,1,1,1,1,1,1]) [1,1] (HU e x 95 (x.Op==29))) (Aq ((fc A9 Bc Tryz.f67 [] (VV.tup [Aa v,Aa r])).cut [1,1,0,1,0,1,1,1,1,1,1,1]) [1,1] (HU e x 95 (x.Op==30))))))))):=by kernel_rfl
theorem AdN (v r:Int)(e:D.Env)(x:D.Expr)(b:Bool):((fc A9 Bc Tryz.f67 [] (.tup [Aa v,Aa r])).cut [1,1,0,1,0,1,1,1,1,1,1,1,1,1]).goal (HU e x 95 b) =
  (BB b (∃ (y:Int × Int),VC 109 [VV.agg (Ah e),VV.agg (AE x)] (vII y)/\LQ (vII y) (VV.tup [Aa v,Aa r])) (BB (x.Op==31) (LQ (VV.tup [Aa e.Pid,Aa 0]) (VV.tup [Aa v,Aa r])) (BB (x.Op==32) (LQ (VV.tup [Aa e.S.Last,Aa 0]) (VV.tup [Aa v,Aa r])) (BB (x.Op==33) (LQ (VV.tup [Aa (↑e.S.Procs.length:Int),Aa 0]) (VV.tup [Aa v,Aa r])) (BB (x.Op==34) (Aq ((fc A9 Bc Tryz.f67 [] (VV.tup [Aa v,Aa r])).cut [1,1,0,1,0,1,1,1,1,1,1,1,1,1]) [1,1,1,1,1,1,1,1,0,0,1,0] (Ti e (0:Int))) (BB (x.Op==35) (∃ (y:Int),VC 110 [Ac e.Timeout] (Aa y)/\LQ (VV.tup [Aa y,Aa 0]) (VV.tup [Aa v,Aa r])) (BB (x.Op==36) (Aq ((fc A9 Bc Tryz.f67 [] (VV.tup [Aa v,Aa r])).cut [1,1,0,1,0,1,1,1,1,1,1,1,1,1]) [1,1,1,1,1,1,1,1,1,1,1,1] (HU e x 156 (x.Op==36))) (BB (x.Op==37) (Aq ((fc A9 Bc Tryz.f67 [] (VV.tup [Aa v,Aa r])).cut [1,1,0,1,0,1,1,1,1,1,1,1,1,1]) [1,1,1,1,1,1,1,1,1,1,1,1] (HU e x 156 (x.Op==37))) (Aq ((fc A9 Bc Tryz.f67 [] (VV.tup [Aa v,Aa r])).cut [1,1,0,1,0,1,1,1,1,1,1,1,1,1]) [1,1,1,1,1,1,1,1,1,1,1,1] (HU e x 156 (x.Op==38))))))))))):=by kernel_rfl
theorem AdM (v r:Int)(e:D.Env)(x:D.Expr)(b:Bool):((fc A9 Bc Tryz.f67 [] (.tup [Aa v,Aa r])).cut [1,1,0,1,0,1,1,1,1,1,1,1,1,1,1,1,1,1,1,1,1,1,1,1,1,1]).goal (HU e x 156 b) =
  (BB b (∃ (y:Int × Int),VC 111 [VV.agg (Ah e),VV.agg (AE x)] (vII y)/\LQ (vII y) (VV.tup [Aa v,Aa r])) (BB (x.Op==39) (LQ (VV.tup [Aa 0,Aa 42]) (VV.tup [Aa v,Aa r])) (Aq (fc A9 Bc Tryz.f67 [] (VV.tup [Aa v,Aa r])) [1,1,1] (AiE e x)))):=by kernel_rfl
theorem AdL (v r:Int)(e:D.Env)(x:D.Expr):((fc A9 Bc Tryz.f67 [] (.tup [Aa v,Aa r])).cut [1,1,1]).goal (AiE e x) =
  (∃ (y:Int × Int),VC 67 [VV.agg (Ah e),Aa x.A] (vII y)/\BB (y.snd != 0) (LQ (VV.tup [Aa 0,Aa y.snd]) (VV.tup [Aa v,Aa r])) (∃ (y_1:Int × Int),VC 67 [VV.agg (Ah e),Aa x.B] (vII y_1)/\BB (y_1.snd != 0) (LQ (VV.tup [Aa 0,Aa y_1.snd]) (VV.tup [Aa v,Aa r])) (∃ (y_2:Int × Int),VC 112 [Aa x.Op,Aa y.fst,Aa y_1.fst] (vII y_2)/\LQ (vII y_2) (VV.tup [Aa v,Aa r])))):=by kernel_rfl
theorem TX (r a n:Int)(J:St->Prop):((fc A9 GM Tryz.f151 [] (Aa r)).loop [1,0,0] J).goal (Lk a n) =
  (BB (bif decide (n > 0) then a != 0 else false) (∃ (y:Int),VC 148 [Aa (IntKind.i64.wrap ((2:Int)*a))] (Aa y)/\J (Lk y (IntKind.i64.wrap (n - (1:Int))))) (Aq (fc A9 GM Tryz.f151 [] (Aa r)) [1,1,0,0] (Lk a n))):=by kernel_rfl
theorem TW (r a n:Int)(J:St->Prop):((fc A9 GM Tryz.f151 [] (Aa r)).loop [1,1,0,0] J).goal (Lk a n) =
  (BB (bif bif decide (n<0) then a != 0 else false then a != (-1:Int) else false) (BB (decide (a<0)) ((2:Int)≠(0:Int)/\J (Lk (IntKind.i64.wrap ((IntKind.i64.wrap (a - (1:Int))).tdiv (2:Int))) (IntKind.i64.wrap (n+(1:Int))))) ((2:Int)≠(0:Int)/\J (Lk (IntKind.i64.wrap (a.tdiv (2:Int))) (IntKind.i64.wrap (n+(1:Int)))))) (LQ (Aa a) (Aa r))):=by kernel_rfl
theorem T7 (b:Bool)(x l mt:List Int)(k:Int)(J:St->Prop):((fc A9 KR Tryz.f153 [] (Ac b)).loop [1,1,0,1,0] J).goal (YK x l mt k) =
  (BB (decide (k<(↑mt.length:Int))) (inX k mt.length/\((true&&(mt.getD k.toNat 0==1)==true)=true->inX k x.length)/\((true&&(mt.getD k.toNat 0==1)==true)=true->inX k l.length)/\BB (bif mt.getD k.toNat 0==1 then x.getD k.toNat 0 != l.getD k.toNat 0 else false) (LQ (Ac false) (Ac b)) (J (YK x l mt (IntKind.i64.wrap (k+(1:Int)))))) (LQ (Ac true) (Ac b))):=by kernel_rfl
theorem WX (r:Int)(c:D.Chan)(l mt:List Int)(any:Bool)(k:Int)(J:St->Prop):((fc A9 MP Tryz.f116 [] (Aa r)).loop [1,0,1,0] J).goal (YM c l mt any k) =
  (BB (decide (k<(↑c.Queue.length:Int))) (inX k c.Queue.length/\∃ (y:Bool),VC 153 [Ad true (c.Queue.getD k.toNat []),Ad true l,Ad true mt] (Ac y)/\BB (bif y then bif k==0 then true else any else false) (LQ (Aa k) (Aa r)) (J (YM c l mt any (IntKind.i64.wrap (k+(1:Int)))))) (LQ (Aa (-1)) (Aa r))):=by kernel_rfl
theorem Ww (p k r:Int)(e:D.Env)(v:D.Var)(who at' i:Int)(J:St->Prop):((fc A9 Gd Tryz.f106 [] (.tup [Aa p,Aa k,Aa r])).loop [1,1,1,1,1,1,1,0,1,0] J).goal (J0 e v who at' i) =
  (BB (decide (i<(↑v.Dims.length:Int))) (inX i v.Dims.length/\∃ (y:Int × Int),VC 67 [VV.agg (Ah e),Aa (v.Dims.getD i.toNat default).I] (vII y)/\BB (y.snd != 0) (LQ (VV.tup [Aa 0,Aa 0,Aa y.snd]) (VV.tup [Aa p,Aa k,Aa r])) (((true&&decide (y.fst<0)==false)=true->inX i v.Dims.length)/\BB (bif decide (y.fst<0) then true else decide (y.fst>=(v.Dims.getD i.toNat default).Len)) (LQ (VV.tup [Aa 0,Aa 0,Aa 47]) (VV.tup [Aa p,Aa k,Aa r])) (inX i v.Dims.length/\J (J0 e v who (IntKind.i64.wrap (at'+IntKind.i64.wrap (y.fst*(v.Dims.getD i.toNat default).Stride))) (IntKind.i64.wrap (i+(1:Int))))))) (LQ (VV.tup [Aa who,Aa at',Aa 0]) (VV.tup [Aa p,Aa k,Aa r]))):=by kernel_rfl
theorem TP (r:List Int × Int)(e:D.Env)(args mt out:List Int)(k:Int)(J:St->Prop):((fc A9 KN Tryz.f115 [] (.tup [Ad true r.1,Aa r.2])).loop [1,1,0,1,0] J).goal (AcR e args mt out k) =
  (BB (decide (k<(↑args.length:Int))) (inX k mt.length/\BB (mt.getD k.toNat 0==1) (inX k args.length/\∃ (y:Int × Int),VC 67 [VV.agg (Ah e),Aa (args.getD k.toNat 0)] (vII y)/\BB (y.snd != 0) (LQ (VV.tup [VV.nl,Aa y.snd]) (VV.tup [Ad true r.fst,Aa r.snd])) ((out.length+1)*8<=140737488355328/\J (Av [(1,Ad true args),(2,Ad true mt),(3,VV.bp 0 0),(8,VV.ow 1 0 (out.length+1)),(9,Aa (IntKind.i64.wrap (k+(1:Int))))] [Ob.box (Ah e),Ob.arr true 0 (out.length+1) 1 fun(i:Nat)=>bif i.blt out.length then[Aa (out.getD i 0)] else(fun(i:Nat)=>List.take 1 (List.drop (i*1) [Aa y.fst])) (i - out.length)]))) ((out.length+1)*8<=140737488355328/\J (Av [(1,Ad true args),(2,Ad true mt),(3,VV.bp 0 0),(8,VV.ow 1 0 (out.length+1)),(9,Aa (IntKind.i64.wrap (k+(1:Int))))] [Ob.box (Ah e),Ob.arr true 0 (out.length+1) 1 fun(i:Nat)=>bif i.blt out.length then[Aa (out.getD i 0)] else(fun(i:Nat)=>List.take 1 (List.drop (i*1) [Aa 0])) (i - out.length)]))) (LQ (VV.tup [Ad true out,Aa 0]) (VV.tup [Ad true r.fst,Aa r.snd]))):=by kernel_rfl
theorem WN (v r:Int)(x:D.Expr)(at':Int)(some:Bool)(k:Int)(J:St->Prop):((fc A9 MM Tryz.f111 [] (.tup [Aa v,Aa r])).loop [1,1,1,1,1,1,1,1,0,1,0] J).goal (Tf x at' some k) =
  (BB (decide (k<(↑x.Args.length:Int))) (((true&&some==false)=true->inX k x.Args.length)/\J (Tf x at' (bif some then true else x.Args.getD k.toNat 0==at') (IntKind.i64.wrap (k+(1:Int))))) (∃ (y:Int),VC 110 [Ac some] (Aa y)/\LQ (VV.tup [Aa y,Aa 0]) (VV.tup [Aa v,Aa r]))):=by kernel_rfl
theorem WY (v r:Int)(e:D.Env)(k:Int)(J:St->Prop):((fc A9 Bc Tryz.f67 [] (.tup [Aa v,Aa r])).loop [1,1,0,1,0,1,1,1,1,1,1,1,1,1,1,1,1,1,1,1,1,1,0,0,1,0] J).goal (Ti e k) =
  (BB (decide (k<(↑e.S.Procs.length:Int))) (inX k e.S.Procs.length/\inX (e.S.Procs.getD k.toNat default).Type_ e.M.Procs.length/\inX (e.S.Procs.getD k.toNat default).Loc (e.M.Procs.getD (e.S.Procs.getD k.toNat default).Type_.toNat default).Locs.length/\BB ((e.M.Procs.getD (e.S.Procs.getD k.toNat default).Type_.toNat default).Locs.getD (e.S.Procs.getD k.toNat default).Loc.toNat default).Progress (LQ (VV.tup [Aa 0,Aa 0]) (VV.tup [Aa v,Aa r])) (J (Ti e (IntKind.i64.wrap (k+(1:Int)))))) (LQ (VV.tup [Aa 1,Aa 0]) (VV.tup [Aa v,Aa r]))):=by kernel_rfl
theorem T3 (r:List Int)(l:D.Loc)(out:List Int)(k:Int)(J:St->Prop):((fc A9 KP Tryz.f41 [] (Ad true r)).loop [1,1,1,0,1,0] J).goal (AcT l out k) =
  (BB (decide (k<(↑l.Esc.length:Int))) ((out.length+1)*8<=140737488355328/\J (Av [(3,VV.bp 0 0),(4,VV.ow 1 0 (out.length+1)),(5,Aa (IntKind.i64.wrap (k+(1:Int))))] [Ob.box (Bf l),Ob.arr true 0 (out.length+1) 1 fun(i:Nat)=>bif i.blt out.length then[Aa (out.getD i 0)] else(fun(i:Nat)=>List.take 1 (List.drop (i*1) [Aa k])) (i - out.length)])) ((out.length+1)*8<=140737488355328/\LQ (VV.sl true (out.length+1) 1 fun(i:Nat)=>bif i.blt out.length then[Aa (out.getD i 0)] else(fun(i:Nat)=>List.take 1 (List.drop (i*1) [Aa (-1)])) (i - out.length)) (Ad true r))):=by kernel_rfl
theorem Aba (r:List Int × Int)(e:D.Env)(l out:List Int)(k:Int)(J:St->Prop):((fc A9 PB Tryz.f86 [] (.tup [Ad true r.1,Aa r.2])).loop [1,1,0,1,0] J).goal (YO e l out k) =
  (BB (decide (k<(↑l.length:Int))) (inX k l.length/\∃ (y:Int × Int),VC 67 [VV.agg (Ah e),Aa (l.getD k.toNat 0)] (vII y)/\BB (y.snd != 0) (LQ (VV.tup [VV.nl,Aa y.snd]) (VV.tup [Ad true r.fst,Aa r.snd])) ((out.length+1)*8<=140737488355328/\J (Av [(1,Ad true l),(2,VV.bp 0 0),(6,VV.ow 1 0 (out.length+1)),(7,Aa (IntKind.i64.wrap (k+(1:Int))))] [Ob.box (Ah e),Ob.arr true 0 (out.length+1) 1 fun(i:Nat)=>bif i.blt out.length then[Aa (out.getD i 0)] else(fun(i:Nat)=>List.take 1 (List.drop (i*1) [Aa y.fst])) (i - out.length)]))) (LQ (VV.tup [Ad true out,Aa 0]) (VV.tup [Ad true r.fst,Aa r.snd]))):=by kernel_rfl
theorem AaZ (r:List Int × Int)(f:List D.Type)(l out:List Int)(k:Int)(J:St->Prop):((fc A9 Pz Tryz.f125 [] (.tup [Ad true r.1,Aa r.2])).loop [1,1,1,1,1,0,1,0] J).goal (AcV f l out k) =
  (BB (decide (k<(↑l.length:Int))) (inX k f.length/\inX k l.length/\∃ (y:Int),VC 129 [VV.agg (Bs (f.getD k.toNat default)),Aa (l.getD k.toNat 0)] (Aa y)/\(out.length+1)*8<=140737488355328/\J (Av [(8,Ad true l),(10,VV.ow 0 0 (out.length+1)),(11,Az true f),(12,Aa (IntKind.i64.wrap (k+(1:Int))))] [Ob.arr true 0 (out.length+1) 1 fun(i:Nat)=>bif i.blt out.length then[Aa (out.getD i 0)] else(fun(i:Nat)=>List.take 1 (List.drop (i*1) [Aa y])) (i - out.length)])) (LQ (VV.tup [Ad true out,Aa 0]) (VV.tup [Ad true r.fst,Aa r.snd]))):=by kernel_rfl
theorem WK (r:List Pn)(e:D.Env)(c:Int)(m l:List Int)(k:Int)(J:St->Prop):((fc A9 HE Tryz.f163 [] (Cl true r)).loop [1,1,1,1,0,1,0] J).goal (YG e c m l k) =
  (BB (decide (k<(↑l.length:Int))) (inX k l.length/\∃ (y:List D.Trans),VC 43 [VV.agg (Ah e),Aa (l.getD k.toNat 0)] (As true y)/\Aq ((fc A9 HE Tryz.f163 [] (Cl true r)).loop [1,1,1,1,0,1,0] J) [1,0,0,1,1,0,1,0] (Av [(1,Aa c),(2,Ad true m),(3,VV.bp 0 0),(9,Ad true l),(10,Aa k),(11,As true y),(12,VV.nl),(13,Aa 0)] [Ob.box (Ah e)])) (LQ VV.nl (Cl true r))):=by kernel_rfl
theorem WJ (r:List Pn)(e:D.Env)(c:Int)(m l:List Int)(k:Int)(t:List D.Trans)(out:List Pn)(j:Int)(J J2:St->Prop):(((fc A9 HE Tryz.f163 [] (Cl true r)).loop [1,1,1,1,0,1,0] J).loop [1,0,0,1,1,0,1,0] J2).goal (Te e c m l k t out j) =
  (BB (decide (j<(↑t.length:Int))) (inX j t.length/\∃ (y:Bool),VC 164 [VV.agg (Ah e),VV.agg (Ar (t.getD j.toNat default).S),Aa c,Ad true m] (Ac y)/\BB y (inX k l.length/\(out.length+1)*24<=140737488355328/\J2 (Av [(1,Aa c),(2,Ad true m),(3,VV.bp 0 0),(9,Ad true l),(10,Aa k),(11,As true t),(12,VV.ow 1 0 (out.length+1)),(13,Aa (IntKind.i64.wrap (j+(1:Int))))] [Ob.box (Ah e),Ob.arr true 0 (out.length+1) 3 fun(i:Nat)=>bif i.blt out.length then Il (out.getD i default) else(fun(i:Nat)=>List.take 3 (List.drop (i*3) [Aa e.Pid,Aa (l.getD k.toNat 0),Aa j])) (i - out.length)])) (J2 (Te e c m l k t out (IntKind.i64.wrap (j+(1:Int)))))) (∃ (y:Bool),VC 165 [VV.agg (Ah e),As true t,Ac true] (Ac y)/\BB (bif decide ((↑out.length:Int) > 0) then true else y) (LQ (Cl true out) (Cl true r)) (J (YG e c m l (IntKind.i64.wrap (k+(1:Int))))))):=by kernel_rfl
theorem T6 (r:List Pn)(e:D.Env)(c:Int)(m:List Int)(out:List Pn)(k:Int)(J:St->Prop):((fc A9 KQ Tryz.f152 [] (Cl true r)).loop [1,1,0,1,0] J).goal (YJ e c m out k) =
  (BB (decide (k<(↑e.S.Procs.length:Int))) (BB (k != e.Pid) (∃ (y:D.Env),VC 54 [VV.agg (Ah e),Aa k] (VV.agg (Ah y))/\∃ (y_1:List Pn),VC 163 [VV.agg (Ah y),Aa c,Ad true m] (Cl true y_1)/\(out.length+y_1.length)*24<=140737488355328/\(∀ (i:Nat),i<y_1.length->(ET y_1 i).all VV.mem1=true)/\J (Av [(1,Aa c),(2,Ad true m),(3,VV.bp 0 0),(7,VV.ow 1 0 (out.length+y_1.length)),(8,Aa (IntKind.i64.wrap (k+(1:Int))))] [Ob.box (Ah e),Ob.arr true 0 (out.length+y_1.length) 3 fun(i:Nat)=>bif i.blt out.length then ET out i else ET y_1 (i - out.length)])) (J (YJ e c m out (IntKind.i64.wrap (k+(1:Int)))))) (LQ (Cl true out) (Cl true r))):=by kernel_rfl
theorem Wv (b:Bool)(e:D.Env)(ws:List D.Trans)(self:Bool)(k:Int)(J:St->Prop):((fc A9 ML Tryz.f165 [] (Ac b)).loop [1,0,1,0] J).goal (Td e ws self k) =
  (BB (decide (k<(↑ws.length:Int))) (inX k ws.length/\∃ (y:Ab),VC 68 [VV.agg (Ah e),VV.agg (Ar (ws.getD k.toNat default).S),Ac self] (VV.agg (BO y))/\((true&&y.is==false)=true->inX k ws.length)/\BB (bif y.is then true else(ws.getD k.toNat default).S.Kind==7) (LQ (Ac true) (Ac b)) (J (Td e ws self (IntKind.i64.wrap (k+(1:Int)))))) (LQ (Ac false) (Ac b))):=by kernel_rfl
theorem W9 (r:List Ab)(e:D.Env)(ws:List D.Trans)(out:List Ab)(any:Bool)(k:Int)(J:St->Prop):((fc A9 HG Tryz.f42 [] (DK true r)).loop [1,1,1,0,1,0] J).goal (AcW e ws out any k) =
  (BB (decide (k<(↑ws.length:Int))) (inX k ws.length/\∃ (y:Ab),VC 68 [VV.agg (Ah e),VV.agg (Ar (ws.getD k.toNat default).S),Ac false] (VV.agg (BO y))/\(out.length+1)*40<=140737488355328/\J (Av [(1,As true ws),(2,VV.bp 0 0),(5,VV.ow 1 0 (out.length+1)),(6,Ac (bif any then true else y.is)),(7,Aa (IntKind.i64.wrap (k+(1:Int))))] [Ob.box (Ah e),Ob.arr true 0 (out.length+1) 3 fun(i:Nat)=>bif i.blt out.length then BO (out.getD i default) else(fun(i:Nat)=>List.take 3 (List.drop (i*3) (BO y))) (i - out.length)])) (Aq (fc A9 HG Tryz.f42 [] (DK true r)) [1,1,1,1,0,1,0] (Qk ws out any (0:Int)))):=by kernel_rfl
theorem W8 (r:List Ab)(ws:List D.Trans)(out:List Ab)(any:Bool)(k:Int)(J:St->Prop):((fc A9 HG Tryz.f42 [] (DK true r)).loop [1,1,1,1,0,1,0] J).goal (Qk ws out any k) =
  (BB (decide (k<(↑ws.length:Int))) (inX k ws.length/\BB ((ws.getD k.toNat default).S.Kind==7) (inX k out.length/\J (Av [(1,As true ws),(5,VV.ow 0 0 out.length),(6,Ac any),(9,Aa (IntKind.i64.wrap (k+(1:Int))))] [Ob.arr true 0 out.length 3 fun(j:Nat)=>bif j.beq k.toNat then[Ac !any,Aa (out.getD k.toNat default).err,Cl true (out.getD k.toNat default).wth] else BO (out.getD j default)])) (J (Qk ws out any (IntKind.i64.wrap (k+(1:Int)))))) (LQ (DK true out) (DK true r))):=by kernel_rfl
theorem OJ (r:List Wy)(e:D.Env)(op:Bool)(l:List Int)(out:List Wy)(k:Int)(J:St->Prop):((fc A9 DR Tryz.f18 [] (BY true r)).loop [1,1,1,1,1,1,0,1,0] J).goal (Qj e op l out k) =
  (BB (bif bif decide (k<(↑l.length:Int)) then op else false then(↑out.length:Int)==0 else false) (inX k l.length/\∃ (y:List D.Trans),VC 43 [VV.agg (Ah e),Aa (l.getD k.toNat 0)] (As true y)/\∃ (y_1:List Ab),VC 42 [VV.agg (Ah e),As true y] (DK true y_1)/\Aq ((fc A9 DR Tryz.f18 [] (BY true r)).loop [1,1,1,1,1,1,0,1,0] J) [1,0,0,1,1,0] (M1 e op l out k y_1 (0:Int))) (LQ (BY true out) (BY true r))):=by kernel_rfl
theorem Wn (r:List Wy)(e:D.Env)(op:Bool)(l:List Int)(out:List Wy)(k:Int)(c:List Ab)(j:Int)(J J2:St->Prop):(((fc A9 DR Tryz.f18 [] (BY true r)).loop [1,1,1,1,1,1,0,1,0] J).loop [1,0,0,1,1,0] J2).goal (M1 e op l out k c j) =
  (BB (decide (j<(↑c.length:Int))) (inX k l.length/\inX j c.length/\inX j c.length/\((true&&(c.getD j.toNat default).is==true)=true->inX j c.length)/\BB (bif (c.getD j.toNat default).is then(↑(c.getD j.toNat default).wth.length:Int)==0 else false) ((out.length+1)*48<=140737488355328/\Aq (((fc A9 DR Tryz.f18 [] (BY true r)).loop [1,1,1,1,1,1,0,1,0] J).loop [1,0,0,1,1,0] J2) [1,0,0,1,1,1,0] (Av [(1,VV.bp 0 0),(3,Ac op),(5,Ad true l),(6,VV.ow 1 0 (out.length+1)),(7,Aa k),(8,DK true c),(9,Aa j),(10,VV.bp 2 0),(11,Aa 0)] [Ob.box (Ah e),Ob.arr true 0 (out.length+1) 6 fun(i:Nat)=>bif i.blt out.length then Bu (out.getD i default) else(fun(i:Nat)=>List.take 6 (List.drop (i*6) [Aa (l.getD k.toNat 0),Aa j,Aa (-1),Aa (-1),Aa (-1),Aa (c.getD j.toNat default).err])) (i - out.length),Ob.box [Aa (l.getD k.toNat 0),Aa j,Aa (-1),Aa (-1),Aa (-1),Aa (c.getD j.toNat default).err]])) (Aq (((fc A9 DR Tryz.f18 [] (BY true r)).loop [1,1,1,1,1,1,0,1,0] J).loop [1,0,0,1,1,0] J2) [1,0,0,1,1,1,0] (Av [(1,VV.bp 0 0),(3,Ac op),(5,Ad true l),(6,VV.ow 1 0 out.length),(7,Aa k),(8,DK true c),(9,Aa j),(10,VV.bp 2 0),(11,Aa 0)] [Ob.box (Ah e),Ob.arr true 0 out.length 6 (Gp out),Ob.box [Aa (l.getD k.toNat 0),Aa j,Aa (-1),Aa (-1),Aa (-1),Aa (c.getD j.toNat default).err]]))) (J (Qj e op l out (IntKind.i64.wrap (k+(1:Int)))))):=by kernel_rfl
theorem Wm (r:List Wy)(e:D.Env)(op:Bool)(l:List Int)(out:List Wy)(k:Int)(c:List Ab)(j:Int)(w:Wy)(h:Int)(J J2 J3:St->Prop):((((fc A9 DR Tryz.f18 [] (BY true r)).loop [1,1,1,1,1,1,0,1,0] J).loop [1,0,0,1,1,0] J2).loop [1,0,0,1,1,1,0] J3).goal (Tc e op l out k c j w h) =
  (inX j c.length/\BB (decide (h<(↑(c.getD j.toNat default).wth.length:Int))) (inX j c.length/\inX h (c.getD j.toNat default).wth.length/\inX j c.length/\inX h (c.getD j.toNat default).wth.length/\inX j c.length/\inX h (c.getD j.toNat default).wth.length/\(out.length+1)*48<=140737488355328/\J3 (Av [(1,VV.bp 0 0),(3,Ac op),(5,Ad true l),(6,VV.ow 1 0 (out.length+1)),(7,Aa k),(8,DK true c),(9,Aa j),(10,VV.bp 2 0),(11,Aa (IntKind.i64.wrap (h+(1:Int))))] [Ob.box (Ah e),Ob.arr true 0 (out.length+1) 6 fun(i:Nat)=>bif i.blt out.length then Bu (out.getD i default) else(fun(i:Nat)=>List.take 6 (List.drop (i*6) [Aa w.Esc,Aa w.Way,Aa ((c.getD j.toNat default).wth.getD h.toNat default).pid,Aa ((c.getD j.toNat default).wth.getD h.toNat default).esc,Aa ((c.getD j.toNat default).wth.getD h.toNat default).way,Aa w.Err])) (i - out.length),Ob.box [Aa w.Esc,Aa w.Way,Aa ((c.getD j.toNat default).wth.getD h.toNat default).pid,Aa ((c.getD j.toNat default).wth.getD h.toNat default).esc,Aa ((c.getD j.toNat default).wth.getD h.toNat default).way,Aa w.Err]])) (J2 (M1 e op l out k c (IntKind.i64.wrap (j+(1:Int)))))):=by kernel_rfl
theorem Xd (r:List Bool)(m:D.Model)(s:D.State)(out:List Bool)(k:Int)(J:St->Prop):((fc A9 MQ Tryz.f16 [] (AR true r)).loop [1,1,0,1,0] J).goal (AcZ m s out k) =
  (BB (decide (k<(↑s.Procs.length:Int))) (∃ (y:List Wy),VC 18 [VV.agg [Az true m.Globals,Ad true m.Init,AX true m.Shapes,Ad true m.Chans,AM true m.Procs,Aa m.Claim,A7 true m.Exprs,Ad true s.Globals,AV true s.Chans,Ay true s.Procs,Aa s.Last,Aa s.Alone,Aa s.Claim,Aa k,Ac false,VV.nl]] (BY true y)/\(out.length+1)*1<=140737488355328/\J (Av [(2,VV.bp 0 0),(3,VV.bp 1 0),(5,VV.ow 2 0 (out.length+1)),(6,Aa (IntKind.i64.wrap (k+(1:Int))))] [Ob.box (Af m),Ob.box (Ae s),Ob.arr true 0 (out.length+1) 1 fun(i:Nat)=>bif i.blt out.length then[Ac (out.getD i false)] else(fun(i:Nat)=>List.take 1 (List.drop (i*1) [Ac (decide ((↑y.length:Int) > 0))])) (i - out.length)])) (LQ (AR true out) (AR true r))):=by kernel_rfl
end Go.Proofs.YtlhajmkjfcbhnaaGreat
namespace Go.Proofs.YtlhajmkjfcbhnaaGreat
open Go.RowKit
theorem Gz {a b c d:Int}(h1:a=c)(h2:b=d):leO [] []/\VV.le (.tup [.sc (.int .i64 a),.sc (.int .i64 b)]) (.tup [.sc (.int .i64 c),.sc (.int .i64 d)]):=⟨trivial,VV.le_eq (by rw[h1,h2])⟩
theorem Yo (n:Int):wrap32 (IntKind.i64.wrap n)=wrap32 n:=by rw[IntKind.wrap_i64];unfold wrap32;omega
theorem T1 (t:D.Type):Al Tryz.prog 157 [] [.agg (Bs t)] [] (Ac (decide (1<=t.Bits)&&decide (t.Bits<=32))) :=
 Ag Ai Aj Tryz.func157 (by kernel_rfl) rfl (WG _ t) (Ap (BD _ _))
theorem F7 (t:D.Type)(v:Int):Al Tryz.prog 129 [] [.agg (Bs t),Aa v] [] (Aa (Ih t.Bits t.Signed v)):=by
 refine Ag Ai Aj Tryz.func129 (by kernel_rfl) rfl (AdK _ t v) ⟨_,T1 t,fun h=>Ba ?_,fun h=>?_⟩
 ·exact(Ag2 _ _ _ (by simp at h;omega)).symm
 have hb:1<=t.Bits/\t.Bits<=32:=by simpa using h
 have hp:=Ad0 _ hb.1 hb.2
 have hu:IntKind.u64.wrap t.Bits=t.Bits:=by unfold IntKind.wrap;simp[IntKind.bits];omega
 have hm:IntKind.i64.wrap ((1:Int)*2 ^ min (IntKind.u64.wrap t.Bits).toNat IntKind.i64.bits)=2 ^ t.Bits.toNat:=by
  rw[hu,Nat.min_eq_left (by show t.Bits.toNat<=64;omega),Int.one_mul,AL (by omega) (by omega)]
 have f1:=AbS t.Bits v
 have f2:=AbT t.Bits v
 have f3:=AbR t.Bits v
 rw[hm]
 generalize (2:Int) ^ t.Bits.toNat=q at hp f1 f2 f3 ⊢
 have t1:=AiC v q (by omega)
 have t2:=AiD v q (by omega)
 have e0:=Int.emod_nonneg v (b:=q) (by omega)
 have e1:=Int.emod_lt_of_pos v (b:=q) (by omega)
 have hd:IntKind.i64.wrap (q.tdiv 2)=q / 2:=by rw[Int.tdiv_eq_ediv_of_nonneg (by omega),AL (by omega) (by omega)]
 rw[hd]
 have key:∀ x,x=v % q->((bif t.Signed then decide (x>=q / 2) else false)=true->x - q=Ih t.Bits t.Signed v)/\((bif t.Signed then decide (x>=q / 2) else false)=false->x=Ih t.Bits t.Signed v):=by
  intro x hx
  cases hs:t.Signed with
  | true=>exact⟨fun h=>f1 x hb.1 hb.2 hx (of_decide_eq_true h),fun h=>f2 x hb.1 hb.2 hx (by have:=of_decide_eq_false h;omega)⟩
  | false=>exact⟨fun h=>(by cases h),fun _=>f3 x hb.1 hb.2 hx⟩
 refine⟨by omega,by omega,fun h1=>⟨fun _=>by decide,?_⟩,fun h1=>⟨fun _=>by decide,?_⟩⟩
 ·have hx:=t1 (of_decide_eq_true h1)
  rw[AL (by omega) (by omega)]
  obtain⟨k1,k2⟩:=key _ hx
  exact⟨fun h=>Ba (by rw[AL (by omega) (by omega)];exact k1 h),fun h=>Ba (k2 h)⟩
 ·have hx:=t2 (by have:=of_decide_eq_false h1;omega)
  obtain⟨k1,k2⟩:=key _ hx
  exact⟨fun h=>Ba (by rw[AL (by omega) (by omega)];exact k1 h),fun h=>Ba (k2 h)⟩
theorem D9 (v:Int):Al Tryz.prog 148 [] [Aa v] [] (Aa (wrap32 v)) :=
 Ag Ai Aj Tryz.func148 (by kernel_rfl) rfl (AdJ _ v) ⟨_,F7 ⟨32,true⟩ v,Ba (Afj v)⟩
theorem OO (c:Bool):Al Tryz.prog 149 [] [Ac c] [] (Aa (Hs c)) :=
 Ag Ai Aj Tryz.func149 (by kernel_rfl) rfl (AaX _ c) ⟨fun h=>Ba (by rw[h]<;>rfl),fun h=>Ba (by rw[h]<;>rfl)⟩
theorem Agc {a n:Int}(h:0<n):Dr (wrap32 (2*a)) (n - 1)=Dr a n:=by
 unfold Dr
 rw[if_pos (by omega),if_pos (by omega),← YT,← YT,Af0,show n.toNat=(n - 1).toNat+1 by omega,Int.pow_succ]
 congr 1
 grind
theorem Ada {a n:Int}(ha:-2147483648<=a/\a<=2147483647)(h:n<0):Dr (a / 2) (n+1)=Dr a n:=by
 have e:Dr a n=a / 2 ^ (-n).toNat:=by unfold Dr;rw[if_neg (by omega),← YS _ _ ha.1 ha.2]
 rw[e]
 by_cases h0:n+1=0
 ·rw[h0,show(-n).toNat=1 by omega]
  unfold Dr
  rw[if_pos (by omega)]
  exact(congrArg wrap32 (Int.mul_one _)).trans (L4 (by omega) (by omega))
 ·have:=Tn a (-(n+1)).toNat
  unfold Dr
  rw[if_neg (by omega),← YS _ _ (by omega) (by omega),show(-n).toNat=(-(n+1)).toNat+1 by omega,← this,Int.ediv_ediv_of_nonneg (by omega),Int.ediv_ediv_of_nonneg (Int.le_of_lt (Int.pow_pos (by decide))),Int.mul_comm]
theorem Agb {a n:Int}(ha:-2147483648<=a/\a<=2147483647)(h:n=0∨a=0∨a=-1/\n<0):Dr a n=a:=by
 unfold Dr
 rcases h with rfl | rfl | ⟨rfl,h⟩
 ·exact(congrArg wrap32 (Int.mul_one _)).trans (L4 ha.1 ha.2)
 ·split
  ·rw[Int.zero_mul];exact L4 (by decide) (by decide)
  ·exact Int.zero_ediv _
 ·rw[if_neg (by omega)]
  exact Int.ediv_eq_neg_one_of_neg_of_le (by decide) (by have:=Int.pow_pos (n:=2) (m:=min (-n).toNat 32) (by decide);omega)
theorem Nb {a n:Int}(ha:-2147483648<=a/\a<=2147483647)(hn:-2147483648<=n/\n<=2147483648):Al Tryz.prog 151 [] [Aa a,Aa n] [] (Aa (Dr a n)):=by
 generalize hr:Dr a n=r
 refine Ag Ai Aj Tryz.func151 (by kernel_rfl) rfl (Wx r a n) ?_
 refine AA Ai Aj (fun g st=>∃ a n:Int,g=n.toNat/\(-2147483648<=a/\a<=2147483647)/\(-2147483648<=n/\n<=2147483648)/\Dr a n=r/\st=Lk a n) (by kernel_rfl) (by kernel_rfl) ⟨_,Up.of ⟨a,n,rfl,ha,hn,hr,rfl⟩⟩ ?_
 rintro g st ⟨a,n,rfl,ha,hn,hr,rfl⟩
 refine AY.raw (TX r a n _) ⟨fun h=>?_,fun h=>?_⟩
 ·have h':0<n/\a≠0:=by simpa using h
  refine⟨_,D9 _,(n - 1).toNat,by omega,Up.of ⟨_,n - 1,rfl,Cy _,by omega,?_,by rw[AL (n:=n - 1) (by omega) (by omega)]⟩⟩
  rw[AL (by omega) (by omega),Agc h'.1,hr]
 have h':n<=0∨a=0:=by
  rcases Int.lt_or_le 0 n with h0 | h0
  ·simp[h0]at h;exact .inr h
  ·exact .inl h0
 refine AA Ai Aj (fun g st=>∃ a n:Int,g=(-n).toNat/\(-2147483648<=a/\a<=2147483647)/\(-2147483648<=n/\n<=2147483648)/\(n<=0∨a=0)/\Dr a n=r/\st=Lk a n) (by kernel_rfl) (by kernel_rfl) ⟨_,Up.of ⟨a,n,rfl,ha,hn,h',hr,rfl⟩⟩ ?_
 clear hn ha hr h' h
 rintro g st ⟨a,n,rfl,ha,hn,h',hr,rfl⟩
 refine AY.raw (TW r a n _) ⟨fun h=>?_,fun h=>Ba ?_⟩
 ·have k:n<0/\a≠0/\a≠-1:=by simpa[BD,and_assoc] using h
  have hs:=Ada ha k.1
  have hw:IntKind.i64.wrap (n+1)=n+1:=AL (by omega) (by omega)
  refine⟨fun h1=>⟨by decide,(-(n+1)).toNat,by omega,Up.of ⟨a / 2,n+1,rfl,by omega,by omega,.inl (by omega),hs.trans hr,?_⟩⟩,fun h1=>⟨by decide,(-(n+1)).toNat,by omega,Up.of ⟨a / 2,n+1,rfl,by omega,by omega,.inl (by omega),hs.trans hr,?_⟩⟩⟩
  ·rw[hw,AL (n:=a - 1) (by omega) (by omega),Afb a (of_decide_eq_true h1),AL (by omega) (by omega)]
  ·have:=of_decide_eq_false h1
   rw[hw,Int.tdiv_eq_ediv_of_nonneg (by omega),AL (by omega) (by omega)]
 ·rw[← hr,Agb ha]
  by_cases h0:n<0
  ·simp[h0]at h
   by_cases h1:a=0
   ·exact .inr (.inl h1)
   ·exact .inr (.inr ⟨h h1,h0⟩)
  ·rcases h' with h' | h'
   ·exact .inl (by omega)
   ·exact .inr (.inl h')
theorem AaF (op a b:Int):Al Tryz.prog 112 [] [Aa op,Aa a,Aa b] [] (vII (K9 op a b,Vr op b)):=by
  have hx:=Cy a
  have hy:=Cy b
  by_cases ho:6<=op/\op<=21
  · rcases(by omega:op=6∨op=7∨op=8∨op=9∨op=10∨op=11∨op=12∨op=13∨op=14∨op=15∨op=16∨op=17∨op=18∨op=19∨op=20∨op=21) with rfl | rfl | rfl | rfl | rfl | rfl | rfl | rfl | rfl | rfl | rfl | rfl | rfl | rfl | rfl | rfl
    all_goals
      refine Ag Ai Aj Tryz.func112 (by kernel_rfl) rfl (TQ _ _ _ a b) ⟨_,D9 a,_,D9 b,fun h=>?_,fun h=>?_⟩
      · first
          | (exfalso;simp at h;done)
          | (have h0:wrap32 b=0:=by simpa using h
             exact Gz (by simp[K9,h0]) (by simp[Vr,h0]))
      repeat (first
        | refine⟨fun h=>absurd h (by decide),fun _=>?_⟩
        | refine⟨fun _=>?_,fun h=>absurd h (by decide)⟩)
      first
        | exact⟨_,D9 _,Gz (Yo _) rfl⟩
        | exact⟨_,OO _,Gz rfl rfl⟩
        | exact⟨_,Nb hx (by omega),Gz rfl rfl⟩
        | exact⟨_,Nb hx (by rw[AL (by omega) (by omega)];omega),Gz (by rw[AL (by omega) (by omega),Int.zero_sub]<;>rfl) rfl⟩
        | (have h0:wrap32 b≠0:=by simpa using h
           first
             | exact⟨h0,_,D9 _,Gz (by simp only[K9,if_neg h0];exact Yo _) (by simp[Vr,h0])⟩
             | exact⟨h0,Gz (by simp[K9,h0]) (by simp[Vr,h0])⟩)
        | exact Gz (MB .and (by simp) _ _ hx hy) rfl
        | exact Gz (MB .or (by simp) _ _ hx hy) rfl
        | exact Gz (MB .xor (by simp) _ _ hx hy) rfl
  · have h1:K9 op a b=0:=by unfold K9;repeat (rw[if_neg (by omega)])
    have h2:Vr op b=42:=by unfold Vr;rw[if_neg (by omega),if_neg (by omega)]
    have ne:∀ {k:Int},6<=k->k<=21->(op==k)=true->False:=fun h1 h2 h=>by simp at h;omega
    refine Ag Ai Aj Tryz.func112 (by kernel_rfl) rfl (TQ _ _ op a b) ⟨_,D9 a,_,D9 b,fun h=>?_,fun _=>?_⟩
    · simp at h;omega
    repeat refine⟨fun h=>(ne (by decide) (by decide) h).elim,fun _=>?_⟩
    exact Gz h1.symm h2.symm
theorem AaV (op a:Int):Al Tryz.prog 107 [] [Aa op,Aa a] [] (vII (R8 op a,Aif op)):=by
 have hx:=Cy a
 refine Ag Ai Aj Tryz.func107 (by kernel_rfl) rfl (AdD _ _ op a) ⟨_,D9 a,fun h=>⟨_,D9 _,?_⟩,fun h3=>⟨fun h=>⟨_,OO _,?_⟩,fun h4=>⟨fun h=>?_,fun h5=>?_⟩⟩⟩
 ·obtain rfl:op=3:=by simpa using h
  exact Gz (by rw[AL (by omega) (by omega),Int.zero_sub]<;>rfl) rfl
 ·obtain rfl:op=4:=by simpa using h
  exact Gz rfl rfl
 ·obtain rfl:op=5:=by simpa using h
  exact Gz (by rw[AL (n:=0 - _) (by omega) (by omega),AL (by omega) (by omega),Int.zero_sub]<;>rfl) rfl
 ·simp at h3 h4 h5
  exact Gz (by unfold R8;rw[if_neg h3,if_neg h4,if_neg h5]) (by unfold Aif;rw[if_neg (by omega)])
theorem Ng {x l mt:List Int}(hm:Len mt.length):Al Tryz.prog 153 [] [Ad true x,Ad true l,Ad true mt] [] (Ac (EZ x l mt)):=by
 unfold Len at hm
 refine Ag Ai Aj Tryz.func153 (by kernel_rfl) rfl (WR _ x l mt) ⟨fun h=>Ap ?_,fun h=>?_⟩
 ·symm;unfold EZ
  grind
 ·have hl:mt.length<=x.length/\mt.length<=l.length:=by simp at h;omega
  have e0:EZ x l mt=Cd mt.length fun i=>!(decide (mt.getD i 0=1)&&decide (x.getD i 0≠l.getD i 0)):=by
   unfold EZ
   grind
  rw[e0]
  refine AH Ai Aj mt.length (fun k=>YK x l mt k) (fun k=>∀ i,i<k->(!(decide (mt.getD i 0=1)&&decide (x.getD i 0≠l.getD i 0)))=true) (by kernel_rfl) (by kernel_rfl) (fun i hi=>by omega) ?_
  intro k hk hI J next
  refine AY.raw (T7 _ x l mt k J) ⟨fun hlt=>?_,fun hge=>Ap ?_⟩
  ·have hlt':k<mt.length:=by have:=AG hlt;omega
   have hto:(k:Int).toNat=k:=by omega
   rw[hto]
   refine⟨⟨by omega,by omega⟩,fun _=>⟨by omega,by omega⟩,fun _=>⟨by omega,by omega⟩,fun hy=>Ap ?_,fun hy=>next _ hlt' (B0 hI ?_) (Up.of ?_)⟩
   ·simp only[BD,ieq,CY]at hy
    grind [BE]
   ·grind
   grind [Ak]
  grind [AI,AK]
theorem Kq {c:D.Chan}{l mt:List Int}{any:Bool}(hc:Len c.Queue.length)(hm:Len mt.length):Al Tryz.prog 116 [] [.agg (Aw c),Ad true l,Ad true mt,Ac any] [] (Aa (Ja c l mt any)):=by
 unfold Len at hc
 refine Ag Ai Aj Tryz.func116 (by kernel_rfl) rfl (Aa2 _ c l mt any) ?_
 unfold Ja
 refine AH Ai Aj c.Queue.length (fun k=>YM c l mt any k) (fun k=>(any=true∨k=0)/\Ph l mt any 0 c.Queue=Ph l mt any k (c.Queue.drop k)∨any=false/\0<k/\Ph l mt any 0 c.Queue=-1) (by kernel_rfl) (by kernel_rfl) (.inl ⟨.inr rfl,rfl⟩) ?_
 intro k hk hI J next
 refine AY.raw (WX _ c l mt any k J) ⟨fun hlt=>?_,fun hge=>Ba ?_⟩
 ·have hlt':k<c.Queue.length:=by have:=AG hlt;omega
  have hto:(k:Int).toNat=k:=by omega
  rw[hto]
  rw[Bb (d:=[]) hlt',XT]at hI
  have hk0:((k:Int)==0)=decide (k=0):=by grind
  rw[hk0]
  refine⟨⟨by omega,by omega⟩,_,Ng hm,fun hy=>Ba ?_,fun hy=>next _ hlt' ?_ (Up.of ?_)⟩
  ·grind
  ·grind
  grind [Ak]
 ·have hge':c.Queue.length<=k:=by have:=AI hge;omega
  rw[List.drop_of_length_le hge']at hI
  rcases hI with⟨_,hI⟩ | ⟨_,_,hI⟩<;>exact hI.symm
abbrev EvR (e:D.Env)(a:Int)(p:Int × Int):Prop:=Al Tryz.prog 67 [] [.agg (Ah e),Aa a] [] (vII p)
theorem DH (c:Bool):Al Tryz.prog 110 [] [Ac c] [] (Aa (Dh c).1) :=
 Ag Ai Aj Tryz.func110 (by kernel_rfl) rfl (AaW _ c) ⟨fun h=>Ba (by rw[h]<;>rfl),fun h=>Ba (by rw[h]<;>rfl)⟩
section
variable {e : D.Env} {ev:Evl} {a:Int} {x:D.Expr}
theorem OT (h:EvR e a (ev a)):Al Tryz.prog 150 [] [.agg (Ah e),Aa a] [] (vII (C7 e ev a)):=by
 refine Ag Ai Aj Tryz.func150 (by kernel_rfl) rfl (Aa6 _ _ e a) ⟨ev a,h,fun h=>B9 (ct (by simpa using h) rfl),fun h=>⟨fun h2=>B9 (cf (by simpa using h) (ct ?_ rfl)),fun h2=>B9 (cf (by simpa using h) (cf ?_ rfl))⟩⟩
 ·rw[Cn]at h2;exact h2
 grind
def Ke (ev:Evl)(args mt:List Int):List Int × Int:=bif decide (Eu ev args mt args.length≠0) then([],Eu ev args mt args.length) else(C8 ev args mt,0)
theorem SN {args mt:List Int}{k:Nat}(hk:k<args.length):(C8 ev args mt).take (k+1)=(C8 ev args mt).take k++[(GU ev (args.getD k 0) (mt.getD k 0)).1]:=by
 rw[List.take_add_one]
 simp[C8,hk]
theorem Fh {l:List Int}{n:Int}{i:Nat}(hi:i<l.length+1):(bif i.blt l.length then[Aa (l.getD i 0)] else List.take 1 (List.drop ((i - l.length)*1) [Aa n]))=AJ (l++[n]) i :=
 Bz (f:=fun n=>[Aa n]) (d:=0) (l:=l) (r:=[n]) (F:=fun i=>[Aa (l.getD i 0)]) (fun _ _=>rfl) EV (by simp;omega)
theorem M9 {args mt:List Int}(hl:args.length<=1048576)(hm:mt.length=args.length)(ha:∀ a∈args,EvR e a (ev a)) :
  Al Tryz.prog 115 [] [.agg (Ah e),Ad true args,Ad true mt] [] (.tup [Ad true (Ke ev args mt).1,Aa (Ke ev args mt).2]):=by
 have hq:Ke ev args mt=bif decide (Eu ev args mt args.length≠0) then([],Eu ev args mt args.length) else(C8 ev args mt,0):=rfl
 generalize Ke ev args mt=r at hq
 refine Ag Ai Aj Tryz.func115 (by kernel_rfl) rfl (Wo r e args mt) ?_
 refine Aq.own 3 8 1 (AJ []) rfl ?_
 have hlen:∀ k,k<=args.length->((C8 ev args mt).take k).length=k:=fun k hk=>by simp[C8];omega
 refine AA Ai Aj (fun gg st=>∃ k:Nat,k<=args.length/\gg=args.length - k/\(∀ i,i<k->(GU ev (args.getD i 0) (mt.getD i 0)).2=0)/\st=AcR e args mt ((C8 ev args mt).take k) k) (by kernel_rfl) (by kernel_rfl) ⟨args.length,Up.of ⟨0,Nat.zero_le _,rfl,fun i hi=>by omega,rfl⟩⟩ ?_
 rintro gg st ⟨k,hk,rfl,hI,rfl⟩
 have hlk:=hlen k hk
 refine AY.raw (TP r e args mt _ k _) ⟨fun hlt=>?_,fun hge=>?_⟩
 ·have hlt':k<args.length:=by have:=AG hlt;omega
  have hto:(k:Int).toNat=k:=by omega
  rw[hto]
  have go:∀ n,n=(GU ev (args.getD k 0) (mt.getD k 0)).1->(GU ev (args.getD k 0) (mt.getD k 0)).2=0->(((C8 ev args mt).take k).length+1)*8<=140737488355328/\∃ g',g'<args.length - k/\Up (fun st=>∃ k:Nat,k<=args.length/\g'=args.length - k/\(∀ i,i<k->(GU ev (args.getD i 0) (mt.getD i 0)).2=0)/\st=AcR e args mt ((C8 ev args mt).take k) k) (Av [(1,Ad true args),(2,Ad true mt),(3,VV.bp 0 0),(8,VV.ow 1 0 (((C8 ev args mt).take k).length+1)),(9,Aa (IntKind.i64.wrap ((k:Int)+1)))]
    [Ob.box (Ah e),Ob.arr true 0 (((C8 ev args mt).take k).length+1) 1 fun i=>bif i.blt ((C8 ev args mt).take k).length then[Aa (((C8 ev args mt).take k).getD i 0)] else(fun i=>List.take 1 (List.drop (i*1) [Aa n])) (i - ((C8 ev args mt).take k).length)]):=by
   intro n hn hz
   refine⟨by omega,args.length - (k+1),by omega,Up.mk (l':=[(1,Ad true args),(2,Ad true mt),(3,VV.bp 0 0),(8,VV.ow 1 0 ((C8 ev args mt).take (k+1)).length),(9,Aa ((k+1:Nat):Int))]) (hs':=[.box (Ah e),.arr true 0 ((C8 ev args mt).take (k+1)).length 1 (AJ ((C8 ev args mt).take (k+1)))]) ?_ ?_ ⟨k+1,hlt',rfl,B0 hI hz,rfl⟩⟩
   ·grind [Ak,AU]
   ·rw[SN hlt',← hn,List.length_append]
    exact⟨Ob.le_refl _,Ob.le_arr fun i hi=>AZ (Fh hi),trivial⟩
  refine⟨⟨by omega,by omega⟩,fun hy=>⟨⟨by omega,by omega⟩,ev (args.getD k 0),ha _ (An hlt'),fun hz=>?_,fun hz=>?_⟩,fun hy=>?_⟩
  ·have hv:GU ev (args.getD k 0) (mt.getD k 0)=ev (args.getD k 0):=by unfold GU;rw[← ieq,hy]<;>rfl
   have hnz:(GU ev (args.getD k 0) (mt.getD k 0)).2≠0:=by rw[hv];simpa using hz
   have he:Eu ev args mt args.length=(ev (args.getD k 0)).2:=by
    unfold Eu
    grind [UU]
   rw[hq,he,decide_eq_true (by simpa using hz)]
   exact⟨trivial,VV.le_tup ⟨VV.le_nil,VV.le_refl _,trivial⟩⟩
  ·have hv:GU ev (args.getD k 0) (mt.getD k 0)=ev (args.getD k 0):=by unfold GU;rw[← ieq,hy]<;>rfl
   simp_all
  ·have hv:GU ev (args.getD k 0) (mt.getD k 0)=(0,0):=by unfold GU;rw[← ieq,hy]<;>rfl
   simp_all
 ·obtain rfl:k=args.length:=by have:=AI hge;omega
  have he:Eu ev args mt args.length=0:=Mz hI
  rw[hq,he,List.take_of_length_le (by simp[C8])]
  exact⟨trivial,VV.le_refl _⟩
end
section
variable {e : D.Env} {ev:Evl} {x:D.Expr}
theorem Xb (hE:BR e)(ho:25<=x.Op/\x.Op<=30)(h:EvR e x.A (ev x.A))(hp:x.Op=30->x.Args.length<=8/\x.Match.length=x.Args.length/\∀ a∈x.Args,EvR e a (ev a)) :
  Al Tryz.prog 109 [] [.agg (Ah e),.agg (AE x)] [] (vII (if x.Op=30 then J6 e ev x else Ka e ev x)):=by
 have hR:(if x.Op=30 then J6 e ev x else Ka e ev x)=bif decide ((C7 e ev x.A).2≠0) then(0,(C7 e ev x.A).2)
   else if x.Op=30 then(bif decide ((BW e.M (BP e (C7 e ev x.A).1).Shape).Fields.length≠x.Args.length) then(0,49)
    else bif decide (Eu ev x.Args x.Match x.Args.length≠0) then(0,Eu ev x.Args x.Match x.Args.length)
    else Dh (decide (0<=Ja (BP e (C7 e ev x.A).1) (C8 ev x.Args x.Match) x.Match (decide (x.N=1)))))
   else Ais x.Op (BW e.M (BP e (C7 e ev x.A).1).Shape).Room (BP e (C7 e ev x.A).1).Queue.length:=by
  unfold J6 Ka
  cases decide ((C7 e ev x.A).2≠0)<;>split<;>rfl
 generalize (if x.Op=30 then J6 e ev x else Ka e ev x)=R at hR
 refine Ag Ai Aj Tryz.func109 (by kernel_rfl) rfl (Aa9 _ _ e x) ⟨C7 e ev x.A,OT h,fun h=>B9 (by rw[hR];exact ct (by simpa using h) rfl),fun h=>?_⟩
 have h0:decide ((C7 e ev x.A).2≠0)=false:=by simpa using h
 rw[h0,cond_false]at hR
 have hn:=Zn hE (of_decide_eq_false h0)
 generalize (C7 e ev x.A).1=n at hn hR
 rw[AL (by omega) (by omega)]
 have hcm:=An (d:=default) (show(n - 1).toNat<e.S.Chans.length by omega)
 have hs:=(GG (hE.chan hcm)).1
 have hql:=(hE.fit.q _ hcm).1
 refine⟨⟨by omega,by omega⟩,hs,fun k=>B9 ?_,fun k1=>⟨fun k=>⟨_,DH _,B9 ?_⟩,fun k2=>⟨fun k=>⟨_,DH _,B9 ?_⟩,fun k3=>⟨fun k=>⟨_,DH _,B9 ?_⟩,fun k4=>⟨fun k=>⟨_,DH _,B9 ?_⟩,fun k5=>?_⟩⟩⟩⟩⟩
 ·rw[hR,show x.Op=25 by simpa using k]<;>rfl
 ·rw[hR,show x.Op=26 by simpa using k]<;>rfl
 ·rw[hR,show x.Op=27 by simpa using k,ieq]<;>rfl
 ·rw[hR,show x.Op=28 by simpa using k]<;>rfl
 ·rw[hR,show x.Op=29 by simpa using k]<;>rfl
 simp only[beq_eq_false_iff_ne]at k1 k2 k3 k4 k5
 have h30:x.Op=30:=by omega
 obtain⟨p1,p2,p3⟩:=hp h30
 rw[if_pos h30]at hR
 have hf:(((e.M.Shapes.getD (e.S.Chans.getD (n - 1).toNat default).Shape.toNat default).Fields.length:Int) != (x.Args.length:Int))=decide ((BW e.M (BP e n).Shape).Fields.length≠x.Args.length):=by
  rw[Bool.eq_iff_iff,bne_iff_ne,decide_eq_true_eq]
  unfold BW BP
  omega
 rw[hf]
 have hc:BP e n=e.S.Chans.getD (n - 1).toNat default:=rfl
 refine⟨fun h1=>B9 (by rw[hR,h1]<;>rfl),fun h1=>⟨Ke ev x.Args x.Match,M9 (by omega) p2 p3,fun h2=>B9 ?_,fun h2=>⟨_,Kq (by unfold Len;omega) (by unfold Len;omega),_,DH _,B9 ?_⟩⟩⟩
 ·rw[hR,h1,cond_false]
  unfold Ke at h2 ⊢
  cases c:decide (Eu ev x.Args x.Match x.Args.length≠0) with
  | true=>rfl
  | false=>rw[c]at h2;cases h2
 ·rw[hR,h1,cond_false,hc]
  unfold Ke at h2 ⊢
  cases c:decide (Eu ev x.Args x.Match x.Args.length≠0) with
  | true=>rw[c]at h2;exact absurd (of_decide_eq_true c) (by simpa using h2)
  | false=>rw[ieq]<;>rfl
theorem WM (_:x.Op=36∨x.Op=37∨x.Op=38)(h:EvR e x.A (ev x.A))(hl:Len x.Args.length) :
  Al Tryz.prog 111 [] [.agg (Ah e),.agg (AE x)] [] (vII (if x.Op=36 then PI e ev x else H3 e ev x)):=by
 unfold Len at hl
 have hR:(if x.Op=36 then PI e ev x else H3 e ev x)=bif decide ((ev x.A).2≠0) then(0,(ev x.A).2)
   else if x.Op=36 then Dh (decide (0<=(ev x.A).1)&&(decide ((ev x.A).1<e.Able.length)&&e.Able.getD (ev x.A).1.toNat false))
   else bif decide ((ev x.A).1<0)||(decide ((e.S.Procs.length:Int)<=(ev x.A).1)||(decide (x.Op=38)&&decide ((Ci e (ev x.A).1).Type_≠x.N))) then(0,52)
    else bif decide (x.Op=37) then((Ci e (ev x.A).1).Loc,0) else Dh (decide ((Ci e (ev x.A).1).Loc∈x.Args)):=by
  unfold PI H3
  cases decide ((ev x.A).2≠0)<;>split<;>rfl
 generalize (if x.Op=36 then PI e ev x else H3 e ev x)=R at hR
 refine Ag Ai Aj Tryz.func111 (by kernel_rfl) rfl (AaU _ _ e x) ⟨ev x.A,h,fun h=>B9 (by rw[hR];exact ct (by simpa using h) rfl),fun h=>?_⟩
 have h0:decide ((ev x.A).2≠0)=false:=by simpa using h
 rw[h0,cond_false]at hR
 generalize (ev x.A).1=n at hR
 refine⟨fun h1=>⟨fun h2=>?_,_,DH _,B9 ?_⟩,fun h1=>⟨fun h2=>?_,fun h2=>B9 ?_,fun h2=>?_⟩⟩
 ·simp at h2
  exact⟨by omega,by omega⟩
 ·rw[hR,if_pos (by simpa using h1)]
  simp only[BD,ge_iff_le,Bool.and_assoc]
  rfl
 ·simp at h2
  exact⟨by omega,by omega⟩
 ·rw[hR,if_neg (by simpa using h1)]
  simp only[Cn,BD,ieq,CY,ge_iff_le,Bool.or_assoc]at h2
  exact ct h2 rfl
 have h3:=h2
 simp only[Cn,BD,ieq,CY,ge_iff_le,Bool.or_assoc]at h3
 rw[if_neg (by simpa using h1)]at hR
 have hR:R=bif decide (x.Op=37) then((Ci e n).Loc,0) else Dh (decide ((Ci e n).Loc∈x.Args)):=hR.trans (cf h3 rfl).symm
 simp only[Bool.or_eq_false_iff,decide_eq_false_iff_not]at h3
 refine⟨⟨by omega,by omega⟩,fun h4=>B9 ?_,fun h4=>?_⟩
 ·rw[hR,← ieq,h4]<;>rfl
 rw[← ieq,h4,cond_false]at hR
 change Aq _ _ (Tf x (Ci e n).Loc false 0)
 generalize (Ci e n).Loc=at' at hR
 refine AH Ai Aj x.Args.length (fun k=>Tf x at' (decide (at'∈x.Args.take k)) k) (fun _=>True) (by kernel_rfl) (by kernel_rfl) trivial ?_
 intro k hk _ J next
 refine AY.raw (WN _ _ x at' _ k J) ⟨fun hlt=>?_,fun hge=>⟨_,DH _,B9 ?_⟩⟩
 ·have hlt':k<x.Args.length:=by have:=AG hlt;omega
  have hto:(k:Int).toNat=k:=by omega
  rw[hto]
  refine⟨fun _=>⟨by omega,by omega⟩,next _ hlt' trivial (Up.of ?_)⟩
  have hm:decide (at'∈x.Args.take (k+1))=bif decide (at'∈x.Args.take k) then true else x.Args.getD k 0==at':=by
   rw[Cn,ieq,Bool.eq_iff_iff,List.take_add_one,Bool.or_eq_true,decide_eq_true_eq,decide_eq_true_eq,decide_eq_true_eq,List.mem_append]
   simp[List.getD,hlt',eq_comm]
  rw[Ak (by omega),← hm]
 ·rw[hR,List.take_of_length_le (by have:=AI hge;omega)]<;>rfl
theorem T8 (_:x.Op=22∨x.Op=23∨x.Op=24)(h:EvR e x.A (ev x.A))(hB:EvR e x.B (ev x.B))(hC:x.Op=24->EvR e x.C (ev x.C)) :
  Al Tryz.prog 108 [] [.agg (Ah e),.agg (AE x)] [] (vII (I5 ev x)):=by
 refine Ag Ai Aj Tryz.func108 (by kernel_rfl) rfl (WS _ _ e x) ⟨ev x.A,h,fun h=>B9 (ct (by simpa using h) rfl),fun h=>?_⟩
 have h0:decide ((ev x.A).2≠0)=false:=by simpa using h
 have hq:I5 ev x=bif decide (x.Op=24) then(bif decide ((ev x.A).1≠0) then ev x.B else ev x.C)
   else bif (decide (x.Op=22)&&decide ((ev x.A).1=0))||(decide (x.Op=23)&&decide ((ev x.A).1≠0)) then Dh (decide ((ev x.A).1≠0))
   else bif decide ((ev x.B).2≠0) then(0,(ev x.B).2) else Dh (decide ((ev x.B).1≠0)):=by unfold I5;rw[h0]<;>rfl
 rw[hq]
 generalize (ev x.A).1=n
 simp only[BD,ieq,CY]
 refine⟨fun h1=>⟨_,hB,B9 ?_⟩,fun h1=>⟨fun h2=>⟨_,hC (by simpa using h2),B9 ?_⟩,fun h2=>⟨fun h3=>B9 ?_,fun h3=>⟨fun h4=>B9 ?_,fun h4=>⟨_,hB,fun h5=>B9 ?_,fun h5=>⟨_,DH _,B9 ?_⟩⟩⟩⟩⟩⟩
 ·rw[Bool.and_eq_true]at h1
  exact ct h1.1 (ct h1.2 rfl)
 ·rw[h2,Bool.true_and]at h1
  exact ct h2 (cf h1 rfl)
 ·refine cf h2 (ct (by rw[h3,Bool.true_or]) ?_)
  rw[Bool.and_eq_true,decide_eq_true_eq,decide_eq_true_eq]at h3
  rw[h3.2]<;>rfl
 ·refine cf h2 (ct (by rw[h4,Bool.or_true]) ?_)
  rw[Bool.and_eq_true]at h4
  rw[h4.2]<;>rfl
 ·exact cf h2 (cf (by rw[h3,h4,Bool.false_or]) (ct (by simpa using h5) rfl))
 ·exact cf h2 (cf (by rw[h3,h4,Bool.false_or]) (cf (by simpa using h5) rfl))
end
section
variable {e : D.Env} {ev:Evl} {x:Int}
theorem W2 {R:Int × Int × Int}{v:D.Var}{who:Int}(hs:0<=v.Slot/\v.Slot<=128/\v.Dims.length<=4)(hd:∀ d∈v.Dims,AfV d/\EvR e d.I (ev d.I))
  (hR:R=bif decide ((Dn ev v.Slot v.Dims).2≠0) then(0,0,(Dn ev v.Slot v.Dims).2) else(who,(Dn ev v.Slot v.Dims).1,0)) :
  Aq (fc A9 Gd Tryz.f106 [] (AcE R)) [1,1,1,1,1,1,1,0,1,0] (J0 e v who v.Slot 0):=by
 obtain⟨h0,h1,h2⟩:=hs
 refine AA Ai Aj (fun gg st=>∃ (k:Nat) (n:Int),k<=v.Dims.length/\gg=v.Dims.length - k/\0<=n/\n<=128+16384*k/\Dn ev n (v.Dims.drop k)=Dn ev v.Slot v.Dims/\st=J0 e v who n k) (by kernel_rfl) (by kernel_rfl)
  ⟨v.Dims.length,Up.of ⟨0,v.Slot,Nat.zero_le _,rfl,h0,by omega,rfl,rfl⟩⟩ ?_
 generalize Dn ev v.Slot v.Dims=q at hR
 rintro gg st ⟨k,n,hk,rfl,hn0,hn1,hI,rfl⟩
 refine AY.raw (Ww _ _ _ e v who n k _) ⟨fun hlt=>?_,fun hge=>?_⟩
 ·have hlt':k<v.Dims.length:=by have:=AG hlt;omega
  have hto:(k:Int).toNat=k:=by omega
  rw[hto]
  obtain⟨hD,hE'⟩:=hd _ (An (d:=default) hlt')
  rw[Bb (d:=default) hlt',Im]at hI
  generalize v.Dims.getD k default=d at hD hE' hI ⊢
  refine⟨⟨by omega,by omega⟩,_,hE',fun h2=>LN ?_,fun h2=>⟨fun _=>⟨by omega,by omega⟩,fun h3=>LN ?_,fun h3=>⟨⟨by omega,by omega⟩,?_⟩⟩⟩
  ·have h2':decide ((ev d.I).2≠0)=true:=by simpa using h2
   rw[h2',cond_true]at hI
   subst hI
   rw[hR,h2']<;>rfl
  ·have h2':decide ((ev d.I).2≠0)=false:=by simpa using h2
   rw[Cn]at h3
   rw[h2',cond_false,show(decide ((ev d.I).1<0)||decide (d.Len<=(ev d.I).1))=true from h3,cond_true]at hI
   subst hI
   rw[hR]<;>rfl
  ·have h2':decide ((ev d.I).2≠0)=false:=by simpa using h2
   rw[Cn]at h3
   have h3':(decide ((ev d.I).1<0)||decide (d.Len<=(ev d.I).1))=false:=h3
   rw[h2',cond_false,h3',cond_false]at hI
   simp only[Bool.or_eq_false_iff,decide_eq_false_iff_not]at h3'
   have hm:=AeS (i:=(ev d.I).1) (s:=d.Stride) (n:=d.Len) (by omega) (by omega) hD.l2 hD.s1 hD.s2
   rw[AL (n:=(ev d.I).1*d.Stride) (by omega) (by omega),AL (by omega) (by omega),Ak (by omega)]
   exact⟨v.Dims.length - (k+1),by omega,Up.of ⟨k+1,n+(ev d.I).1*d.Stride,by omega,rfl,by omega,by omega,hI,rfl⟩⟩
 ·obtain rfl:k=v.Dims.length:=by have:=AI hge;omega
  rw[List.drop_length]at hI
  subst hI
  exact LN hR.symm
theorem OM (hE:BR e)(hx:0<=x/\x<e.M.Exprs.length)(hok:P2 e.M x (Ao e.M x))(hev:∀ a,0<=a->a<x->EvR e a (ev a)) :
  Al Tryz.prog 106 [] [.agg (Ah e),Aa x] [] (AcE (Bl e ev (Ao e.M x))):=by
 have hp:=hE.pid
 have hv:=(hE.wf.Exprs.2 _ (Afm hx)).V
 have hR:Bl e ev (Ao e.M x)=bif decide ((Ao e.M x).Op≠2) then(0,0,42) else bif decide ((BT e ev (Ao e.M x).V).2≠0) then(0,0,(BT e ev (Ao e.M x).V).2)
   else bif decide ((Dn ev (Ao e.M x).V.Slot (Ao e.M x).V.Dims).2≠0) then(0,0,(Dn ev (Ao e.M x).V.Slot (Ao e.M x).V.Dims).2) else((BT e ev (Ao e.M x).V).1,(Dn ev (Ao e.M x).V.Slot (Ao e.M x).V.Dims).1,0):=rfl
 generalize Bl e ev (Ao e.M x)=R at hR
 refine Ag Ai Aj Tryz.func106 (by kernel_rfl) rfl (AaL _ _ _ e x) ⟨hx,fun h=>LN ?_,fun h=>⟨hx,?_⟩⟩
 ·rw[hR,show decide ((Ao e.M x).Op≠2)=true by simpa[Ao] using h]<;>rfl
 have h2:(Ao e.M x).Op=2:=by simpa[Ao] using h
 rw[decide_eq_false (by simpa using h2),cond_false]at hR
 have vo:=HL (hok.var h2)
 have hsc:=vo.scope
 have hD:=fun who=>W2 (e:=e) (ev:=ev) (R:=R) (v:=(Ao e.M x).V) (who:=who) ⟨vo.slot.1,vo.slot.2,vo.dims⟩ fun d hd=>⟨(vo.dim d hd).1,hev _ (vo.dim d hd).2.1 (vo.dim d hd).2.2⟩
 change ∃ y,Al _ _ _ [.agg (BN (Ao e.M x).V)] _ _/\_
 refine⟨_,M6 hv,?_⟩
 change BB ((Ao e.M x).V.Scope==0) (BB _ _ (Aq _ _ (J0 e (Ao e.M x).V _ (Ao e.M x).V.Slot 0))) (BB ((Ao e.M x).V.Scope==1) (_/\BB _ _ (Aq _ _ (J0 e (Ao e.M x).V _ (Ao e.M x).V.Slot 0))) (∃ y_1,Al _ _ _ [_,Aa (Ao e.M x).V.Who] _ _/\BB _ _ (_/\BB (bif _ then true else _ != (Ao e.M x).V.Type_) _ (_/\BB _ _ (Aq _ _ (J0 e (Ao e.M x).V _ (Ao e.M x).V.Slot 0))))))
 have hwho:(Ao e.M x).V.Scope=2->EvR e (Ao e.M x).V.Who (ev (Ao e.M x).V.Who):=fun h=>hev _ (vo.who h).1 (vo.who h).2
 generalize (Ao e.M x).V=v at hR hsc hD hwho ⊢
 have fin:∀ {p:Int × Int},p=BT e ev v->(p.2≠0->(0,0,p.2)=R)/\(p.2=0->R=bif decide ((Dn ev v.Slot v.Dims).2≠0) then(0,0,(Dn ev v.Slot v.Dims).2) else(p.1,(Dn ev v.Slot v.Dims).1,0)):=fun hp=>by
  rw[← hp]at hR
  exact⟨fun h=>by rw[hR,decide_eq_true h]<;>rfl,fun h=>by rw[hR,decide_eq_false (by simpa using h)]<;>rfl⟩
 refine⟨fun k=>⟨fun k1=>LN ?_,fun k1=>hD _ ?_⟩,fun k=>⟨fun k1=>⟨fun k2=>?_,fun k2=>LN ?_,fun k2=>hD _ ?_⟩,fun k1=>⟨_,hwho ?_,fun k2=>LN ?_,fun k2=>⟨fun k3=>?_,fun k3=>LN ?_,fun k3=>⟨?_,fun k4=>LN ?_,fun k4=>hD _ ?_⟩⟩⟩⟩⟩
 ·exact(fin (p:=(0,42)) (ct (by simpa using k) (ct k1 rfl))).1 (by decide)
 ·exact(fin (p:=(-1,0)) (ct (by simpa using k) (cf k1 rfl))).2 rfl
 ·simp at k2;exact⟨by omega,by omega⟩
 ·exact(fin (p:=(0,42)) (cf (by simpa using k) (ct (by simpa using k1) (ct (by rw[Cn]at k2;exact k2) rfl)))).1 (by decide)
 ·exact(fin (p:=(e.Pid,0)) (cf (by simpa using k) (ct (by simpa using k1) (cf (by rw[Cn]at k2;exact k2) rfl)))).2 rfl
 ·simp at k k1;omega
 ·exact(fin (p:=(0,(ev v.Who).2)) (cf (by simpa using k) (cf (by simpa using k1) (ct (by simpa using k2) rfl)))).1 (by simpa using k2)
 ·simp at k3;exact⟨by omega,by omega⟩
 ·simp only[Cn,CY,ge_iff_le,Bool.or_assoc]at k3
  exact(fin (p:=(0,52)) (cf (by simpa using k) (cf (by simpa using k1) (cf (by simpa using k2) (ct k3 rfl))))).1 (by decide)
 ·simp at k3;exact⟨by omega,by omega⟩
 ·simp only[Cn,CY,ge_iff_le,Bool.or_assoc]at k3
  exact(fin (p:=(0,42)) (cf (by simpa using k) (cf (by simpa using k1) (cf (by simpa using k2) (cf k3 (ct k4 rfl)))))).1 (by decide)
 ·simp only[Cn,CY,ge_iff_le,Bool.or_assoc]at k3
  exact(fin (p:=((ev v.Who).1,0)) (cf (by simpa using k) (cf (by simpa using k1) (cf (by simpa using k2) (cf k3 (cf k4 rfl)))))).2 rfl
end
section
variable {e : D.Env} {ev:Evl} {x:Int}
theorem WL {R:Int × Int}(hE:BR e)(hR:R=Dh (!Fk e)):Aq (fc A9 Bc Tryz.f67 [] (vII R)) [1,1,0,1,0,1,1,1,1,1,1,1,1,1,1,1,1,1,1,1,1,1,0,0,1,0] (Ti e 0):=by
 have hpl:=hE.fit.p
 refine AH Ai Aj e.S.Procs.length (fun k=>Ti e k) (fun k=>∀ i,i<k->(!((EA e.M (e.S.Procs.getD i default).Type_).getD (e.S.Procs.getD i default).Loc.toNat default).Progress)=true) (by kernel_rfl) (by kernel_rfl) (fun i hi=>by omega) ?_
 intro k hk hI J next
 refine AY.raw (WY _ _ e k J) ⟨fun hlt=>?_,fun hge=>B9 ?_⟩
 ·have hlt':k<e.S.Procs.length:=by have:=AG hlt;omega
  have hto:(k:Int).toNat=k:=by omega
  rw[hto]
  have hf:=DI (hE.proc (An (d:=default) hlt'))
  refine⟨⟨by omega,by omega⟩,hf.1,hf.2.1,fun hy=>B9 ?_,fun hy=>next _ hlt' (B0 hI ?_) (Up.of ?_)⟩
  ·rw[hR]
   unfold Fk
   rw[BE (f:=fun i=>!((EA e.M (e.S.Procs.getD i default).Type_).getD (e.S.Procs.getD i default).Loc.toNat default).Progress) hlt' (by show(!_)=false;unfold EA;rw[hy]<;>rfl)]<;>rfl
  ·show(!_)=true
   unfold EA;rw[hy]<;>rfl
  ·rw[Ak (by omega)]<;>rfl
 ·have hge':e.S.Procs.length<=k:=by have:=AI hge;omega
  rw[hR]
  unfold Fk
  rw[AK.2 fun i hi=>hI i (by omega)]<;>rfl
set_option maxHeartbeats 4000000 in
theorem OQ (hE:BR e)(hx:0<=x/\x<e.M.Exprs.length)(hev:∀ a,0<=a->a<x->EvR e a (ev a)):EvR e x (CD e ev (Ao e.M x)):=by
  have hxn:((x.toNat:Nat):Int)=x:=by omega
  have hok:P2 e.M x (Ao e.M x):=Pj (by have:=hE.expr x.toNat (by omega);rwa [hxn]at this)
  have hsl:=OM hE hx hok hev
  have hin:=RL (e:=e) (ev:=ev) hE (fun ho=>HL (hok.var ho))
  have hA:1<=AP (Ao e.M x).Op->EvR e (Ao e.M x).A (ev (Ao e.M x).A):=fun h=>hev _ (hok.a h).1 (hok.a h).2
  have hB:2<=AP (Ao e.M x).Op->EvR e (Ao e.M x).B (ev (Ao e.M x).B):=fun h=>hev _ (hok.b h).1 (hok.b h).2
  have hC:3<=AP (Ao e.M x).Op->EvR e (Ao e.M x).C (ev (Ao e.M x).C):=fun h=>hev _ (hok.c h).1 (hok.c h).2
  have hp:(Ao e.M x).Op=30->(Ao e.M x).Args.length<=8/\(Ao e.M x).Match.length=(Ao e.M x).Args.length/\∀ a∈(Ao e.M x).Args,EvR e a (ev a):=fun ho =>
    ⟨(NU (hok.poll ho)).1,(NU (hok.poll ho)).2.1,fun a ha=>hev _ ((NU (hok.poll ho)).2.2 a ha).1 ((NU (hok.poll ho)).2.2 a ha).2⟩
  have hR:(if (Ao e.M x).Op=1∨(Ao e.M x).Op=2∨22<=(Ao e.M x).Op then True else CD e ev (Ao e.M x)=Qh ev (Ao e.M x)):=by
    split
    · trivial
    · have:=hok.op
      unfold CD
      repeat (rw[if_neg (by omega)])
  have c1:=fun b=>Dq (c:=fc A9 Bc Tryz.f67 [] (vII (CD e ev (Ao e.M x)))) Ai Aj (by kernel_rfl) (AdP _ _ e (Ao e.M x) b)
  have c2:=fun b=>Dq (c:=fc A9 Bc Tryz.f67 [] (vII (CD e ev (Ao e.M x)))) Ai Aj (by kernel_rfl) (AdO _ _ e (Ao e.M x) b)
  have c3:=fun b=>Dq (c:=fc A9 Bc Tryz.f67 [] (vII (CD e ev (Ao e.M x)))) Ai Aj (by kernel_rfl) (AdN _ _ e (Ao e.M x) b)
  have c4:=fun b=>Dq (c:=fc A9 Bc Tryz.f67 [] (vII (CD e ev (Ao e.M x)))) Ai Aj (by kernel_rfl) (AdM _ _ e (Ao e.M x) b)
  have c5:=Dq (c:=fc A9 Bc Tryz.f67 [] (vII (CD e ev (Ao e.M x)))) Ai Aj (by kernel_rfl) (AdL _ _ e (Ao e.M x))
  refine Ag Ai Aj Tryz.func67 (by kernel_rfl) rfl (Aa3 _ _ e x) ⟨hx,?_⟩
  rcases AeP (o:=(Ao e.M x).Op) (by have:=hok.op;omega) with ho | ho | ho | ho | ho | ho | ho | ho | ho | ho | ho | ho | ho | ho | ho | ho | ho | ho | ho | ho | ho | ho | ho | ho | ho | ho | ho | ho | ho | ho | ho | ho | ho | ho | ho | ho | ho | ho | ho
  all_goals
    have hop:(e.M.Exprs.getD x.toNat default).Op=_:=ho
    repeat (first
      | refine⟨fun h=>absurd h (by (first | rw[hop] | rw[ho]);decide),fun _=>?_⟩
      | refine⟨fun _=>?_,fun h=>absurd h (by (first | rw[hop] | rw[ho]);decide)⟩
      | refine c1 _ ?_
      | refine c2 _ ?_
      | refine c3 _ ?_
      | refine c4 _ ?_
      | refine c5 ?_)
    first
      | exact B9 (by unfold CD;rw[ho]<;>rfl)
      | exact⟨_,DH _,B9 (by unfold CD;rw[ho]<;>rfl)⟩
      | exact⟨_,T8 (by omega) (hA (by rw[ho];decide)) (hB (by rw[ho];decide)) (fun h=>hC (by rw[h];decide)),B9 (by unfold CD;rw[ho]<;>rfl)⟩
      | exact⟨_,Xb hE (by omega) (hA (by rw[ho];decide)) hp,B9 (by unfold CD;rw[ho]<;>rfl)⟩
      | exact⟨_,WM (by omega) (hA (by rw[ho];decide)) (AfO hE hx),B9 (by unfold CD;rw[ho]<;>rfl)⟩
      | exact WL hE (by unfold CD;rw[ho]<;>rfl)
      | (rw[if_neg (by omega)]at hR
         refine⟨_,hA (by rw[ho];decide),fun h=>B9 ?_,fun h=>⟨_,AaV _ _,B9 ?_⟩⟩
         · rw[hR];exact ct (by simpa using h) rfl
         · rw[hR];exact cf (by simpa using h) (ct (by rw[ho]<;>rfl) rfl))
      | (rw[if_neg (by omega)]at hR
         refine⟨_,hA (by rw[ho];decide),fun h=>B9 ?_,fun h=>⟨_,hB (by rw[ho];decide),fun h2=>B9 ?_,fun h2=>⟨_,AaF _ _ _,B9 ?_⟩⟩⟩
         · rw[hR];exact ct (by simpa using h) rfl
         · rw[hR];exact cf (by simpa using h) (cf (by rw[ho]<;>rfl) (ct (by simpa using h2) rfl))
         · rw[hR];exact cf (by simpa using h) (cf (by rw[ho]<;>rfl) (cf (by simpa using h2) rfl)))
      | (have hr:CD e ev (Ao e.M x)=M8 e ev (Ao e.M x):=by unfold CD;rw[ho]<;>rfl
         refine⟨_,hsl,fun h=>B9 ?_,fun h=>?_⟩
         · rw[hr];exact ct (by simpa using h) rfl
         · have h0:decide ((Bl e ev (Ao e.M x)).2.2≠0)=false:=by simpa using h
           have hi:=hin (by simpa using h0)
           refine⟨fun h1=>⟨hi.glob (of_decide_eq_true h1),B9 ?_⟩,fun h1=>?_⟩
           · rw[hr];exact cf h0 (ct h1 rfl)
           · have hw:=hi.own (by have:=of_decide_eq_false h1;omega)
             refine⟨⟨by have:=of_decide_eq_false h1;omega,hw.1⟩,hw.2,B9 ?_⟩
             rw[hr];exact cf h0 (cf h1 rfl))
theorem GX (hE:BR e):∀ (n:Nat) (x:Int),0<=x->x<e.M.Exprs.length->x<n->EvR e x (GD e n x)
 | 0,x,h0,_,h2=>by omega
 | n+1,x,h0,h1,h2=>OQ hE ⟨h0,h1⟩ fun a ha hlt=>GX hE n a ha (by omega) (by omega)
theorem Sm (hE:BR e)(hx:0<=x/\x<e.M.Exprs.length):B8 e x=0:=by
 have hp:=hE.pid
 unfold B8 B3
 rw[hE.may,hE.fits,decide_eq_false (show ¬ e.Pid < -1 by omega),decide_eq_false (show ¬ (e.S.Procs.length:Int)<=e.Pid by omega),decide_eq_false (show ¬ x<0 by omega),decide_eq_false (show ¬ (e.M.Exprs.length:Int)<=x by omega)]<;>rfl
theorem Afp (hE:BR e)(hx:0<=x/\x<e.M.Exprs.length):Bh e x=CD e (D0 e) (Ao e.M x):=by
 unfold Bh
 rw[Sm hE hx]<;>rfl
theorem Hm (hE:BR e)(hx:0<=x/\x<e.M.Exprs.length):EvR e x (Bh e x):=by
 rw[Afp hE hx]
 exact OQ hE hx fun a h0 h1=>GX hE _ a h0 (by omega) (by omega)
theorem QM (hE:BR e)(hx:0<=x/\x<e.M.Exprs.length):Al Tryz.prog 150 [] [.agg (Ah e),Aa x] [] (vII (AC e x)):=by
 have:AC e x=C7 e (GD e e.M.Exprs.length) x:=by
  unfold AC
  rw[Sm hE hx]<;>rfl
 rw[this]
 exact OT (GX hE _ x hx.1 hx.2 hx.2)
end
section
variable {e : D.Env} {s:D.Stmt}
theorem C4.kA {m:D.Model}{s:D.Stmt}(h:C4 m s)(hk:s.Kind=1∨s.Kind=5∨s.Kind=6):0<=s.A/\s.A<m.Exprs.length:=by
 have h1:=h.st
 have h2:=F8 (m:=m) (a:=s.A)
 unfold Au at h1
 grind
theorem C4.n6 {m:D.Model}{s:D.Stmt}(h:C4 m s)(hk:s.Kind=6):0<=s.N/\s.N<=3:=by
 have h1:=h.st
 unfold Au at h1
 grind
theorem Mf (h:B5 e):Al Tryz.prog 38 [] [.agg (Ah e)] [] (.agg (AO (BQ e))):=M5 ⟨h.p0,h.ok.pid.2⟩ h.facts.1
def GZ (l:D.Loc)(i:Int):List D.Trans:=bif decide (i<0) then l.Out else l.Esc.getD i.toNat []
theorem Gu (h:B5 e){i:Int}(hi:0<=i->i<(Br e).Esc.length):Al Tryz.prog 43 [] [.agg (Ah e),Aa i] [] (As true (GZ (Br e) i)) :=
 V7 ⟨h.p0,h.ok.pid.2⟩ h.facts.1 h.facts.2 hi
def Hr (n:Nat):List Int:=(List.range n).map fun i=>((i:Nat):Int)
theorem Abt {n:Nat}:Hr (n+1)=Hr n++[(n:Int)]:=by simp[Hr,List.range_succ]
theorem LI {n:Nat}:(Hr n).length=n:=by simp[Hr]
theorem Nf (h:B5 e):Al Tryz.prog 41 [] [.agg (Ah e)] [] (Ad true (Hr (Br e).Esc.length++[-1])):=by
 have hl:=h.wloc.Esc.1
 refine Ag Ai Aj Tryz.func41 (by kernel_rfl) rfl (WO _ e) ⟨BQ e,Mf h,⟨h.p0,h.ok.pid.2⟩,h.facts.2,?_⟩
 refine Aq.own 1 4 1 (AJ []) rfl ?_
 change Aq _ _ (AcT (Br e) (Hr 0) ((0:Nat):Int))
 generalize Br e=l at hl
 refine AH Ai Aj l.Esc.length (fun k=>AcT l (Hr k) k) (fun _=>True) (by kernel_rfl) (by kernel_rfl) trivial ?_
 intro k hk _ J next
 have hlk:(Hr k).length=k:=LI
 refine AY.raw (T3 _ l (Hr k) k J) ⟨fun hlt=>⟨by omega,?_⟩,fun hge=>⟨by omega,trivial,?_⟩⟩
 ·have hlt':k<l.Esc.length:=by have:=AG hlt;omega
  refine next _ hlt' trivial (Up.mk (l':=[(3,.bp 0 0),(4,.ow 1 0 (Hr (k+1)).length),(5,Aa ((k+1:Nat):Int))]) (hs':=[.box (Bf l),.arr true 0 (Hr (k+1)).length 1 (AJ (Hr (k+1)))]) ?_ ?_ rfl)
  ·grind [LI,Ak,AU]
  ·rw[Abt,List.length_append]
   exact⟨Ob.le_refl _,Ob.le_arr fun i hi=>AZ (Fh hi),trivial⟩
 ·obtain rfl:k=l.Esc.length:=by have:=AI hge;omega
  unfold Ad
  rw[List.length_append]
  exact VV.le_sl (.inl rfl) fun i hi=>AZ (Fh hi)
theorem JD {x:Int}(h:0<=x->x<e.M.Exprs.length):Al Tryz.prog 83 [] [.agg (Ah e),Aa x] [] (Ac (BJ e x)):=by
 refine Ag Ai Aj Tryz.func83 (by kernel_rfl) rfl (AdB _ e x) ⟨fun hx=>?_,Ap ?_⟩
 ·grind
 ·unfold BJ Ao
  rw[BD,ieq]
theorem LB {err:Int}:Al Tryz.prog 39 [] [Aa err] [] (.agg (Bu (Nl err))) :=
 Ag Ai Aj Tryz.func39 (by kernel_rfl) rfl (T4 _ err) ⟨trivial,VV.le_refl _⟩
theorem Ko {p:Int}:Al Tryz.prog 54 [] [.agg (Ah e),Aa p] [] (.agg (Ah (Bq e p))) :=
 Ag Ai Aj Tryz.func54 (by kernel_rfl) rfl (AaD _ e p) ⟨trivial,VV.le_refl _⟩
theorem Mg (hE:BR e){l:List Int}(hl:l.length<=1048576)(hin:InE e.M l):Al Tryz.prog 86 [] [.agg (Ah e),Ad true l] [] (.tup [Ad true (BI e l).1,Aa (BI e l).2]):=by
 refine Ag Ai Aj Tryz.func86 (by kernel_rfl) rfl (AdR (BI e l) e l) ?_
 refine Aq.own 2 6 1 (AJ []) rfl ?_
 change Aq _ _ (YO e l [] 0)
 refine AA Ai Aj (fun g st=>∃ (k:Nat) (out:List Int),k<=l.length/\g=l.length - k/\out.length<=k/\Iv (Bh e) out (l.drop k)=BI e l/\st=YO e l out k) (by kernel_rfl) (by kernel_rfl) ⟨_,Up.of ⟨0,[],Nat.zero_le _,rfl,Nat.zero_le _,rfl,rfl⟩⟩ ?_
 rintro g st ⟨k,out,hk,rfl,ho,hq,rfl⟩
 refine AY.raw (Aba _ e l out k _) ⟨fun hlt=>?_,fun hge=>?_⟩
 ·have hlt':k<l.length:=by have:=AG hlt;omega
  have hto:(k:Int).toNat=k:=by omega
  rw[hto]
  rw[Bb (d:=0) hlt',Rq]at hq
  refine⟨⟨by omega,by omega⟩,Bh e (l.getD k 0),Hm hE (hin _ (An hlt')),fun he=>?_,fun he=>⟨by omega,l.length - (k+1),by omega,Up.mk (hs':=[.box (Ah e),.arr true 0 (out.length+1) 1 (AJ (out++[(Bh e (l.getD k 0)).1]))]) (AU _) ⟨Ob.le_refl _,Ob.le_arr fun i hi=>AZ (Fh hi),trivial⟩ ⟨k+1,out++[(Bh e (l.getD k 0)).1],by omega,rfl,by simp;omega,?_,?_⟩⟩⟩
  ·rw[show decide ((Bh e (l.getD k 0)).2≠0)=true by simpa using he,cond_true]at hq
   rw[← hq]
   exact⟨trivial,VV.le_tup ⟨VV.le_nil,VV.le_refl _,trivial⟩⟩
  ·grind
  ·rw[Ak (by omega)]
   unfold YO
   grind
 ·rw[List.drop_of_length_le (by have:=AI hge;omega)]at hq
  rw[← hq]
  exact⟨trivial,VV.le_refl _⟩
def CN (e:D.Env)(s:D.Stmt):Int × Int:=bif decide ((AC e s.A).2≠0) then(0,(AC e s.A).2) else bif decide ((Bo e (AC e s.A).1).length≠s.Args.length) then(0,49) else((AC e s.A).1,0)
theorem F1 (hE:BR e)(hA:0<=s.A/\s.A<e.M.Exprs.length):Al Tryz.prog 114 [] [.agg (Ah e),.agg (Ar s)] [] (vII (CN e s)):=by
 have hq:CN e s=bif decide ((AC e s.A).2≠0) then(0,(AC e s.A).2) else bif decide ((Bo e (AC e s.A).1).length≠s.Args.length) then(0,49) else((AC e s.A).1,0):=rfl
 generalize CN e s=R at hq
 refine Ag Ai Aj Tryz.func114 (by kernel_rfl) rfl (TR _ _ e s) ⟨AC e s.A,QM hE hA,fun h=>B9 ?_,fun h=>?_⟩
 ·grind
 have h0:(AC e s.A).2=0:=by simpa using h
 have hc:=FL hE.wf h0
 rw[h0]at hq
 generalize (AC e s.A).1=n at hc hq ⊢
 have h1:=hc.lo
 have h2:=hc.hi
 have h3:=hc.le
 rw[AL (by omega) (by omega)]
 refine⟨⟨by omega,by omega⟩,hc.sh,fun hf=>B9 ?_,fun hf=>B9 ?_⟩
 ·rw[AeR]at hf
  rw[hq,show decide ((Bo e n).length≠s.Args.length)=true from hf]<;>rfl
 ·rw[AeR]at hf
  rw[hq,show decide ((Bo e n).length≠s.Args.length)=false from hf]<;>rfl
theorem AbU {f:List D.Type}{l:List Int}{k:Nat}(hk:k<l.length):(Hy f l).take (k+1)=(Hy f l).take k++[KB (f.getD k default) (l.getD k 0)]:=by
 rw[List.take_add_one]
 simp[Hy,hk]
theorem QK (hE:BR e)(hs:C4 e.M s)(h0:(AC e s.A).2=0)(hf:(Bo e (AC e s.A).1).length=s.Args.length) :
  Al Tryz.prog 125 [] [.agg (Ah e),.agg (Ar s),Aa (AC e s.A).1] [] (.tup [Ad true (Ax e s).2.1,Aa (Ax e s).2.2]):=by
 have hq:(Ax e s).2=bif decide ((BI e s.Args).2≠0) then([],(BI e s.Args).2) else(Hy (Bo e (AC e s.A).1) (BI e s.Args).1,0):=by
  unfold Ax
  grind
 generalize (Ax e s).2=r at hq
 have hc:=FL hE.wf h0
 generalize (AC e s.A).1=n at hc hq hf ⊢
 have h1:=hc.lo
 have h2:=hc.hi
 have h3:=hc.le
 have hal:=hs.args
 refine Ag Ai Aj Tryz.func125 (by kernel_rfl) rfl (AdH r e s n) ⟨BI e s.Args,Mg hE hal (HP hs.st).1,fun h=>?_,fun h=>?_⟩
 ·rw[hq,show decide ((BI e s.Args).2≠0)=true by simpa using h]
  exact⟨trivial,VV.le_tup ⟨VV.le_nil,VV.le_refl _,trivial⟩⟩
 have ha0:(BI e s.Args).2=0:=by simpa using h
 have hlen:=L1 ha0
 rw[ha0]at hq
 rw[AL (by omega) (by omega)]
 refine⟨⟨by omega,by omega⟩,hc.sh,?_⟩
 refine Aq.own 1 10 1 (AJ []) rfl ?_
 change Aq _ _ (AcV (Bo e n) (BI e s.Args).1 ((Hy (Bo e n) (BI e s.Args).1).take 0) ((0:Nat):Int))
 generalize Bo e n=f at hq hf ⊢
 generalize (BI e s.Args).1=l at hq hlen ⊢
 have hlt:∀ k,k<=l.length->((Hy f l).take k).length=k:=fun k hk=>by simp[Hy];omega
 refine AH Ai Aj l.length (fun k=>AcV f l ((Hy f l).take k) k) (fun _=>True) (by kernel_rfl) (by kernel_rfl) trivial ?_
 intro k hk _ J next
 have hlk:=hlt k hk
 refine AY.raw (AaZ r f l _ k J) ⟨fun hlt2=>?_,fun hge=>?_⟩
 ·have hlt':k<l.length:=by have:=AG hlt2;omega
  have hto:(k:Int).toNat=k:=by omega
  rw[hto]
  refine⟨⟨by omega,by omega⟩,⟨by omega,by omega⟩,KB (f.getD k default) (l.getD k 0),F7 _ _,by omega,next _ hlt' trivial (Up.mk (l':=[(8,Ad true l),(10,.ow 0 0 ((Hy f l).take (k+1)).length),(11,Az true f),(12,Aa ((k+1:Nat):Int))]) (hs':=[.arr true 0 ((Hy f l).take (k+1)).length 1 (AJ ((Hy f l).take (k+1)))]) ?_ ?_ rfl)⟩
  ·grind [Ak,AU]
  ·rw[AbU hlt',List.length_append]
   exact⟨Ob.le_arr fun i hi=>AZ (Fh hi),trivial⟩
 ·rw[hq,List.take_of_length_le (by simp[Hy];have:=AI hge;omega)]
  exact⟨trivial,VV.le_refl _⟩
theorem ON (h:B5 e):Al Tryz.prog 40 [] [.agg (Ah e)] [] (.tup [Ac (A6 e).1,Aa (A6 e).2]):=by
 have hq:A6 e=bif decide ((BQ e).Provided<0) then(true,0) else(decide ((Bh e (BQ e).Provided).1≠0),(Bh e (BQ e).Provided).2):=rfl
 generalize A6 e=r at hq
 have hb:HB e.M.Procs.length (fun i=>!De e.M i)=-1:=(CB h.ok.may).2.1
 have hf:=E5 (n:=e.M.Procs.length) (f:=fun i=>!De e.M i) (by omega) (Ci e e.Pid).Type_.toNat (by have:=h.facts.1;omega)
 have hpv:(BQ e).Provided<e.M.Exprs.length:=by
  unfold De at hf
  simp only[Bool.not_eq_true',Bool.or_eq_false_iff,decide_eq_false_iff_not]at hf
  have:=hf.2.2.2.1
  unfold BQ AN
  omega
 refine Ag Ai Aj Tryz.func40 (by kernel_rfl) rfl (AaT r e) ⟨BQ e,Mf h,fun h1=>⟨trivial,?_⟩,fun h1=>⟨Bh e (BQ e).Provided,Hm h.ok (by grind),trivial,?_⟩⟩
 ·rw[hq,h1];exact VV.le_refl _
 ·rw[hq,h1,CY];exact VV.le_refl _
theorem RV (hE:BR e)(hs:C4 e.M s)(hk:s.Kind=6):Al Tryz.prog 115 [] [.agg (Ah e),Ad true s.Args,Ad true s.Match] [] (.tup [Ad true (Cz e s).1,Aa (Cz e s).2]) :=
 M9 (ev:=Bh e) hs.args (hs.k6 hk) fun a ha=>Hm hE ((HP hs.st).1 a ha)
theorem Afk {m l mt:List Int}:decide (Ja ⟨0,[m]⟩ l mt false=0)=EZ m l mt:=by
 show decide ((bif EZ m l mt then((0:Nat):Int) else -1)=0)=_
 cases EZ m l mt<;>rfl
theorem TS {c:Int}{m:List Int}(hE:BR e)(hs:C4 e.M s):Al Tryz.prog 164 [] [.agg (Ah e),.agg (Ar s),Aa c,Ad true m] [] (Ac (DE e s c m)):=by
 have hq:DE e s c m=bif decide (s.Kind≠6)||(decide (1<s.N)||decide (s.Args.length≠m.length)) then false
  else bif decide ((AC e s.A).2≠0)||decide ((AC e s.A).1≠c) then false
  else bif decide ((Cz e s).2≠0) then false else decide (Ja ⟨0,[m]⟩ (Cz e s).1 s.Match false=0):=rfl
 generalize DE e s c m=b at hq
 have hal:=hs.args
 have e1:(bif bif s.Kind != (6:Int) then true else decide (s.N > (1:Int)) then true else(s.Args.length:Int) != (m.length:Int))=(decide (s.Kind≠6)||(decide (1<s.N)||decide (s.Args.length≠m.length))):=by grind
 refine Ag Ai Aj Tryz.func164 (by kernel_rfl) rfl (Wq b e s c m) ⟨fun h=>Ap ?_,fun h=>?_⟩
 ·grind
 rw[e1]at h
 have hk:s.Kind=6:=by grind
 have hm:=hs.k6 hk
 rw[h,cond_false]at hq
 refine⟨AC e s.A,QM hE (hs.kA (.inr (.inr hk))),fun h2=>Ap ?_,fun h2=>⟨Cz e s,RV hE hs hk,fun h3=>Ap ?_,fun h3=>⟨_,Ng (by unfold Len;omega),Ap ?_⟩⟩⟩
 ·grind
 ·grind
 simp_all [CY,Afk]
end
section
variable {e : D.Env} {s:D.Stmt} {ws:List D.Trans} {mt:Int->List Int->List Pn} {self:Bool}
abbrev MtR (e:D.Env)(mt:Int->List Int->List Pn):Prop:=∀ c m,Al Tryz.prog 152 [] [.agg (Ah e),Aa c,Ad true m] [] (Cl true (mt c m))
theorem WA (hE:BR e)(hs:C4 e.M s)(hk:s.Kind=5)(hmt:self=false->MtR e mt) :
  Al Tryz.prog 113 [] [.agg (Ah e),.agg (Ar s),Ac self] [] (.agg (BO (Fg e mt s self))):=by
 have hq:Fg e mt s self=bif decide ((CN e s).2≠0) then⟨true,(CN e s).2,[]⟩
  else bif decide (0<(BW e.M (BP e (AC e s.A).1).Shape).Room) then⟨decide (((BP e (AC e s.A).1).Queue.length:Int)<(BW e.M (BP e (AC e s.A).1).Shape).Room),0,[]⟩
  else bif self then⟨false,0,[]⟩
  else bif decide ((Ax e s).2.2≠0) then⟨true,(Ax e s).2.2,[]⟩
  else⟨decide (0<(mt (AC e s.A).1 (Ax e s).2.1).length),0,mt (AC e s.A).1 (Ax e s).2.1⟩:=by
  unfold Fg CN
  grind
 generalize Fg e mt s self=r at hq
 refine Ag Ai Aj Tryz.func113 (by kernel_rfl) rfl (AaN r e s self) ⟨CN e s,F1 hE (hs.kA (.inr (.inl hk))),fun h1=>E0 ?_,fun h1=>?_⟩
 ·grind
 have h0:decide ((CN e s).2≠0)=false:=by simpa using h1
 rw[h0,cond_false]at hq
 have ht:(AC e s.A).2=0/\(Bo e (AC e s.A).1).length=s.Args.length/\(CN e s).1=(AC e s.A).1:=by
  unfold CN at h0 ⊢
  grind
 obtain⟨t1,t2,t3⟩:=ht
 have hmsg:=QK hE hs t1 t2
 have hc:=FL hE.wf t1
 rw[t3]
 generalize (AC e s.A).1=n at hc hq hmsg ⊢
 have h2:=hc.lo
 have h3:=hc.hi
 have h4:=hc.le
 rw[AL (by omega) (by omega)]
 refine⟨⟨by omega,by omega⟩,hc.sh,fun hr=>E0 ?_,fun hr=>⟨fun hself=>E0 ?_,fun hself=>⟨(Ax e s).2,hmsg,fun ha=>E0 ?_,fun ha=>⟨mt n (Ax e s).2.1,hmt hself _ _,Ai5 ?_⟩⟩⟩⟩
 ·rw[hq,show decide (0<(BW e.M (BP e n).Shape).Room)=true from hr]<;>rfl
 ·rw[hq,show decide (0<(BW e.M (BP e n).Shape).Room)=false from hr,hself]<;>rfl
 ·rw[hq,show decide (0<(BW e.M (BP e n).Shape).Room)=false from hr,hself,show decide ((Ax e s).2.2≠0)=true by simpa using ha]<;>rfl
 ·rw[hq,show decide (0<(BW e.M (BP e n).Shape).Room)=false from hr,hself,show decide ((Ax e s).2.2≠0)=false by simpa using ha]
  simp_all
theorem OL (hE:BR e)(hs:C4 e.M s)(hmt:self=false->MtR e mt) :
  Al Tryz.prog 68 [] [.agg (Ah e),.agg (Ar s),Ac self] [] (.agg (BO (BA e mt s self))):=by
 have hq:BA e mt s self=if s.Kind=1 then(bif BJ e s.A then IX e else⟨decide ((Bh e s.A).1≠0)||decide ((Bh e s.A).2≠0),(Bh e s.A).2,[]⟩)
  else if s.Kind=2 then(bif BJ e s.B then IX e else⟨true,0,[]⟩)
  else if s.Kind=9 then⟨decide (e.S.Chans.length<32),0,[]⟩
  else if s.Kind=5 then Fg e mt s self
  else if s.Kind=6 then⟨decide (0<=(Bg e s).2.1)||decide ((Bg e s).2.2≠0),(Bg e s).2.2,[]⟩
  else if s.Kind=7 then⟨false,0,[]⟩ else⟨true,0,[]⟩:=rfl
 generalize BA e mt s self=r at hq
 have lf:∀ {a:Ab},a=r->leO [] []/\VV.le (.agg (BO a)) (.agg (BO r)):=fun h=>by subst h;exact⟨trivial,VV.le_refl _⟩
 have hroom:(⟨decide ((e.S.Procs.length:Int)<16),0,[]⟩:Ab)=IX e:=by
  unfold IX
  have:decide ((e.S.Procs.length:Int)<16)=decide (e.S.Procs.length<16):=by grind
  rw[this]
 obtain⟨_,i2,i3⟩:=HP hs.st
 refine Ag Ai Aj Tryz.func68 (by kernel_rfl) rfl (AaI r e s self) ⟨BJ e s.A,JD i2,BJ e s.B,JD i3,fun k1=>⟨fun hr=>E0 ?_,fun hr=>⟨Bh e s.A,Hm hE (hs.kA (.inl (by simpa using k1))),E0 ?_⟩⟩,
  fun k1=>⟨fun k2=>⟨fun hr=>E0 ?_,fun hr=>E0 ?_⟩,fun k2=>⟨fun k5=>⟨Fg e mt s self,WA hE hs (by simpa using k5) hmt,lf ?_⟩,fun k5=>⟨fun k6=>?_,fun k6=>⟨fun k7=>E0 ?_,fun k7=>⟨fun k9=>E0 ?_,fun k9=>E0 ?_⟩⟩⟩⟩⟩⟩
 ·grind
 ·grind
 ·grind
 ·grind
 ·grind
 ·have k:s.Kind=6:=by simpa using k6
  have hn:=hs.n6 k
  have hal:=hs.args
  have hml:=hs.k6 k
  rw[if_neg (by omega),if_neg (by omega),if_neg (by omega),if_neg (by omega),if_pos k]at hq
  have hfo:Bg e s=bif decide ((CN e s).2≠0) then(0,-1,(CN e s).2) else bif decide ((Cz e s).2≠0) then(0,-1,(Cz e s).2)
    else((CN e s).1,Ja (BP e (CN e s).1) (Cz e s).1 s.Match (decide (s.N.tmod 2=1)),0):=by
   unfold Bg CN
   grind
  have hin:(CN e s).2=0->Ny e (CN e s).1:=by
   intro h
   unfold CN at h ⊢
   cases c1:decide ((AC e s.A).2≠0) with
   | true=>grind
   | false =>
    rw[c1,cond_false]at h
    rw[cond_false]
    cases c2:decide ((Bo e (AC e s.A).1).length≠s.Args.length) with
    | true=>rw[c2]at h;cases h
    | false=>exact FL hE.wf (by grind)
  refine⟨CN e s,F1 hE (hs.kA (.inr (.inr k))),fun h1=>E0 ?_,fun h1=>⟨Cz e s,RV hE hs k,fun h2=>E0 ?_,fun h2=>?_⟩⟩
  ·grind
  ·grind
  ·have hc:=hin (by simpa using h1)
   rw[show decide ((CN e s).2≠0)=false by simpa using h1,cond_false,show decide ((Cz e s).2≠0)=false by simpa using h2,cond_false]at hfo
   rw[hfo]at hq
   generalize (CN e s).1=n at hc hq ⊢
   have h2:=hc.lo
   have h3:=hc.hi
   have h4:=hc.le
   have h5:=hc.q
   rw[AL (by omega) (by omega)]
   have hN:(bif s.N==(1:Int) then true else s.N==3)=decide (s.N.tmod 2=1):=by grind
   rw[hN]
   refine⟨⟨by omega,by omega⟩,_,Kq (c:=BP e n) (by unfold Len;omega) (by unfold Len;omega),E0 ?_⟩
   grind
 ·grind
 ·have k:s.Kind=9:=by simpa using k9
  rw[hq,if_neg (by omega),if_neg (by omega),if_pos k]
  have:decide ((e.S.Chans.length:Int)<32)=decide (e.S.Chans.length<32):=by grind
  rw[this]
 grind
theorem Ac2 : isSome (Dj e Hu ws true)=ws.any fun t=>(BA e Hu t.S true).is||decide (t.S.Kind=7):=by
 have key:∀ n,n<=ws.length->Dz e Hu ws true n=(ws.take n).any fun t=>(BA e Hu t.S true).is:=by
  intro n
  induction n with
  | zero=>intro _;rfl
  | succ n ih =>
   intro hn
   unfold Dz
   rw[ih (by omega),show ws.take (n+1)=ws.take n++[ws.getD n default] by grind [List.take_add_one],List.any_append,List.any_cons,List.any_nil,Bool.or_false]
 have k:=key _ (Nat.le_refl _)
 rw[List.take_length]at k
 rw[Bool.eq_iff_iff]
 unfold isSome Dj
 rw[List.any_map,List.any_eq_true,List.any_eq_true]
 constructor
 ·rintro⟨i,hi,h⟩
  have hi:=List.mem_range.1 hi
  refine⟨_,An (d:=default) hi,?_⟩
  have h:(C1 e Hu ws true i).is=true:=h
  unfold C1 at h
  grind
 ·rintro⟨t,ht,h⟩
  by_cases hs:Dz e Hu ws true ws.length=true
  ·rw[k,List.any_eq_true]at hs
   obtain⟨t,ht,h⟩:=hs
   obtain⟨i,hi,rfl⟩:=List.getElem_of_mem ht
   refine⟨i,List.mem_range.2 hi,?_⟩
   show(C1 e Hu ws true i).is=true
   unfold C1
   grind
  ·have hs:Dz e Hu ws true ws.length=false:=by simpa using hs
   obtain⟨i,hi,rfl⟩:=List.getElem_of_mem ht
   refine⟨i,List.mem_range.2 hi,?_⟩
   show(C1 e Hu ws true i).is=true
   unfold C1
   grind
theorem Wu {n:Nat}(hE:BR e)(hw:Ahj e.M n ws):Al Tryz.prog 165 [] [.agg (Ah e),As true ws,Ac true] [] (Ac (isSome (Dj e Hu ws true))):=by
 have hwl:=hw.len
 rw[Ac2]
 refine Ag Ai Aj Tryz.func165 (by kernel_rfl) rfl (AaK _ e ws true) ?_
 change Aq _ _ (Td e ws true ((0:Nat):Int))
 refine AH Ai Aj ws.length (fun k=>Td e ws true k) (fun k=>(ws.any fun t=>(BA e Hu t.S true).is||decide (t.S.Kind=7))=(ws.drop k).any fun t=>(BA e Hu t.S true).is||decide (t.S.Kind=7)) (by kernel_rfl) (by kernel_rfl) rfl ?_
 intro k hk hI J next
 refine AY.raw (Wv _ e ws true k J) ⟨fun hlt=>?_,fun hge=>Ap ?_⟩
 ·have hlt':k<ws.length:=by have:=AG hlt;omega
  have hto:(k:Int).toNat=k:=by omega
  rw[hto]
  rw[Bb (d:=default) hlt',List.any_cons]at hI
  refine⟨⟨by omega,by omega⟩,BA e Hu (ws.getD k default).S true,OL hE (hw.st _ (An hlt')) (fun h=>by cases h),fun _=>⟨by omega,by omega⟩,fun hy=>Ap ?_,fun hy=>next _ hlt' ?_ (Up.of ?_)⟩
  ·grind
  ·grind
  grind [Ak]
 grind
def MA (e:D.Env)(mt:Int->List Int->List Pn)(ws:List D.Trans)(k:Nat):List Ab:=(List.range k).map fun i=>BA e mt (ws.getD i default).S false
theorem U1 {k:Nat}:(MA e mt ws k).length=k:=by simp[MA]
theorem Ab7 {k:Nat}:MA e mt ws (k+1)=MA e mt ws k++[BA e mt (ws.getD k default).S false]:=by simp[MA,List.range_succ]
theorem AfJ : MA e mt ws ws.length=KG e mt ws false 0:=by
 unfold MA KG
 grind
theorem Ah6 {out:List Ab}{x:Ab}{i:Nat}(hi:i<out.length+1):(bif i.blt out.length then BO (out.getD i default) else List.take 3 (List.drop ((i - out.length)*3) (BO x)))=Kk (out++[x]) i :=
 Bz (f:=BO) (d:=default) (l:=out) (r:=[x]) (F:=fun i=>BO (out.getD i default)) (G:=fun i=>List.take 3 (List.drop (i*3) (BO x))) (fun _ _=>rfl) (fun j hj=>by
  obtain rfl:j=0:=by simpa using hj
  rfl) (by simp;omega)
theorem W7 {n:Nat}(hE:BR e)(hw:Ahj e.M n ws)(hmt:MtR e mt):Al Tryz.prog 42 [] [.agg (Ah e),As true ws] [] (DK true (Dj e mt ws false)):=by
 have hwl:=hw.len
 refine Ag Ai Aj Tryz.func42 (by kernel_rfl) rfl (Aa7 _ e ws) ?_
 refine Aq.own 2 5 3 (Kk []) rfl ?_
 change Aq _ _ (AcW e ws (MA e mt ws 0) false ((0:Nat):Int))
 refine AH Ai Aj ws.length (fun k=>AcW e ws (MA e mt ws k) (Dz e mt ws false k) k) (fun _=>True) (by kernel_rfl) (by kernel_rfl) trivial ?_
 intro k hk _ J next
 have hlk:(MA e mt ws k).length=k:=U1
 refine AY.raw (W9 _ e ws _ _ k J) ⟨fun hlt=>?_,fun hge=>?_⟩
 ·have hlt':k<ws.length:=by have:=AG hlt;omega
  have hto:(k:Int).toNat=k:=by omega
  rw[hto]
  refine⟨⟨by omega,by omega⟩,BA e mt (ws.getD k default).S false,OL hE (hw.st _ (An hlt')) (fun _=>hmt),by omega,next _ hlt' trivial (Up.mk (l':=[(1,As true ws),(2,.bp 0 0),(5,.ow 1 0 (MA e mt ws (k+1)).length),(6,Ac (Dz e mt ws false (k+1))),(7,Aa ((k+1:Nat):Int))]) (hs':=[.box (Ah e),.arr true 0 (MA e mt ws (k+1)).length 3 (Kk (MA e mt ws (k+1)))]) ?_ ?_ rfl)⟩
  ·have:Dz e mt ws false (k+1)=bif Dz e mt ws false k then true else(BA e mt (ws.getD k default).S false).is:=by rw[Cn]<;>rfl
   grind [U1,Ak,AU]
  ·rw[Ab7,List.length_append]
   exact⟨Ob.le_refl _,Ob.le_arr fun i hi=>AZ (Ah6 hi),trivial⟩
 ·obtain rfl:k=ws.length:=by have:=AI hge;omega
  clear next
  generalize hsome:Dz e mt ws false ws.length=some
  rw[AfJ]
  change Aq _ _ (Qk ws (KG e mt ws false 0) some ((0:Nat):Int))
  refine AH Ai Aj ws.length (fun k=>Qk ws (KG e mt ws false k) some k) (fun _=>True) (by kernel_rfl) (by kernel_rfl) trivial ?_
  intro k hk _ J next
  refine AY.raw (W8 _ ws _ some k J) ⟨fun hlt=>?_,fun hge=>⟨trivial,?_⟩⟩
  ·have hlt':k<ws.length:=by have:=AG hlt;omega
   have hto:(k:Int).toNat=k:=by omega
   rw[hto]
   have ea:C1 e mt ws false k=bif decide ((ws.getD k default).S.Kind=7)&&!(Dz e mt ws false ws.length) then{ BA e mt (ws.getD k default).S false with is:=true } else BA e mt (ws.getD k default).S false:=rfl
   refine⟨⟨by omega,by omega⟩,fun hy=>⟨⟨by omega,by rw[Ps];omega⟩,next _ hlt' trivial (Up.mk (hs':=[.arr true 0 (KG e mt ws false k).length 3 (Kk (KG e mt ws false (k+1)))]) (AU _) ⟨Ob.le_arr fun i hi=>AZ ?_,trivial⟩ ?_)⟩,fun hy=>next _ hlt' trivial (Up.of ?_)⟩
   ·rw[Ps]at hi
    rw[Pt hlt',if_neg (Nat.lt_irrefl _)]
    unfold Kk
    rw[Pt hi,Pt hi]
    by_cases hik:i=k
    ·subst hik
     have h7:(ws.getD i default).S.Kind=7:=by simpa using hy
     have hst:BA e mt (ws.getD i default).S false=⟨false,0,[]⟩:=by
      unfold BA
      grind
     rw[if_pos (Nat.lt_succ_self _),Nat.beq_refl,cond_true,ea,hst,hsome,decide_eq_true h7]
     cases some<;>rfl
    ·rw[Air hik,cond_false]
     grind
   ·rw[Ak (by omega)]
    unfold Qk
    grind [Ps]
   ·have h7:decide ((ws.getD k default).S.Kind=7)=false:=by rw[← ieq];exact hy
    have em:KG e mt ws false k=KG e mt ws false (k+1):=by
     unfold KG
     grind
    grind [Ak]
  grind [AI,AfI,VV.le_refl]
end
theorem UT : ∀ {r:List (List D.Trans)} {k:Nat},XW k r=(List.range r.length).map fun j=>(((k+j:Nat):Int),r.getD j [])
 | [],_=>rfl
 | w::r,k=>by
  rw[show XW k (w::r)=((k:Int),w)::XW (k+1) r from rfl,UT,List.length_cons,List.range_succ_eq_map,List.map_cons,List.map_map]
  refine congrArg (List.cons _) (List.map_congr_left fun j _=>?_)
  grind
theorem Q0 {l:D.Loc}:Gx l=(Hr l.Esc.length++[-1]).map fun i=>(i,GZ l i):=by
 unfold Gx Hr
 rw[UT,List.map_append,List.map_map]
 refine congrArg (·++_) (List.map_congr_left fun j _=>?_)
 rw[Nat.zero_add]
 show((j:Int),_)=((j:Int),GZ l j)
 unfold GZ
 grind
theorem AeN {n:Nat}{i:Int}(h:i∈Hr n++[-1]):0<=i->i<n:=fun h0=>by
 rcases List.mem_append.1 h with h | h
 ·obtain⟨j,hj,rfl⟩:=List.mem_map.1 h
  grind
 grind
theorem Q1 {l:D.Loc}{i:Int}(h:0<=i->i<l.Esc.length):GZ l i∈Bw l:=by
 unfold GZ
 by_cases h0:i<0
 ·rw[decide_eq_true h0];exact List.mem_cons_self ..
 ·rw[decide_eq_false h0];exact List.mem_cons_of_mem _ (An (by have:=h (by omega);omega))
section
variable {e : D.Env} {c:Int} {m:List Int}
theorem Aah {out:List Pn}{x:Pn}{i:Nat}(hi:i<out.length+1):(bif i.blt out.length then Il (out.getD i default) else List.take 3 (List.drop ((i - out.length)*3) (Il x)))=ET (out++[x]) i :=
 Ah4 (x:=x) (G:=fun i=>List.take 3 (List.drop (i*3) (Il x))) rfl hi
set_option maxRecDepth 10000 in
theorem WI (h:B5 e):Al Tryz.prog 163 [] [.agg (Ah e),Aa c,Ad true m] [] (Cl true (DO e c m)):=by
 have hq:DO e c m=bif !(A6 e).1||decide ((A6 e).2≠0) then[] else Gr e c m (Gx (Br e)):=rfl
 rw[Q0]at hq
 generalize DO e c m=r at hq
 have hesc:=h.wloc.Esc.1
 have hord:=fun i=>AeN (n:=(Br e).Esc.length) (i:=i)
 refine Ag Ai Aj Tryz.func163 (by kernel_rfl) rfl (AaP r e c m) ⟨A6 e,ON h,fun h1=>?_,fun h1=>⟨_,Nf h,?_⟩⟩
 ·rw[Cn,CY]at h1
  rw[hq,h1]
  exact⟨trivial,VV.le_nil⟩
 rw[Cn,CY]at h1
 rw[h1,cond_false]at hq
 have hLl:(Hr (Br e).Esc.length++[-1]).length<=1048577:=by rw[List.length_append,LI];exact Nat.succ_le_succ hesc
 generalize Hr (Br e).Esc.length++[-1]=L at hq hord hLl ⊢
 refine AA Ai Aj (fun g st=>∃ k:Nat,k<=L.length/\g=L.length - k/\r=Gr e c m ((L.drop k).map fun i=>(i,GZ (Br e) i))/\st=YG e c m L k) (by kernel_rfl) (by kernel_rfl) ⟨_,Up.of ⟨0,Nat.zero_le _,rfl,hq,rfl⟩⟩ ?_
 rintro g st ⟨k,hk,rfl,hq,rfl⟩
 refine AY.raw (WK r e c m L k _) ⟨fun hlt=>?_,fun hge=>?_⟩
 ·have hlt':k<L.length:=by have:=AG hlt;omega
  have hto:(k:Int).toNat=k:=by omega
  rw[hto]
  rw[Bb (d:=0) hlt',List.map_cons,OG]at hq
  have hi:=hord _ (An (d:=0) hlt')
  have hw:=h.ws (Q1 hi)
  have hget:L.getD k 0=L.getD (k:Int).toNat 0:=by rw[hto]
  refine⟨⟨by omega,by omega⟩,_,Gu h hi,?_⟩
  generalize GZ (Br e) (L.getD k 0)=ws at hq hw
  have hwl:=hw.len
  refine Aq.own 6 12 3 (ET []) rfl ?_
  change Aq _ _ (Te e c m L k ws [] 0)
  generalize hG:DW e c m (L.getD k 0) 0 ws=G at hq
  refine AA Ai Aj (fun g st=>∃ (j:Nat) (out:List Pn),j<=ws.length/\g=ws.length - j/\out.length<=j/\out++DW e c m (L.getD k 0) j (ws.drop j)=G/\st=Te e c m L k ws out j) (by kernel_rfl) (by kernel_rfl) ⟨_,Up.of ⟨0,[],Nat.zero_le _,rfl,Nat.zero_le _,hG,rfl⟩⟩ ?_
  rintro g st ⟨j,out,hj,rfl,ho,hoq,rfl⟩
  refine AY.raw (WJ r e c m L k ws out j _ _) ⟨fun hlt2=>?_,fun hge2=>?_⟩
  ·have hlt2':j<ws.length:=by have:=AG hlt2;omega
   have hto2:(j:Int).toNat=j:=by omega
   rw[hto2,hto]
   rw[Bb (d:=default) hlt2',Wg]at hoq
   refine⟨⟨by omega,by omega⟩,DE e (ws.getD j default).S c m,TS h.ok (hw.st _ (An hlt2')),fun hy=>⟨⟨by omega,by omega⟩,by omega,ws.length - (j+1),by omega,
    Up.mk (hs':=[.box (Ah e),.arr true 0 (out.length+1) 3 (ET (out++[Pn.mk e.Pid (L.getD k 0) j]))]) (AU _) ⟨Ob.le_refl _,Ob.le_arr fun i hi=>AZ (Aah (x:=Pn.mk e.Pid (L.getD k 0) j) hi),trivial⟩ ⟨j+1,out++[Pn.mk e.Pid (L.getD k 0) j],hlt2',rfl,by simp;omega,?_,?_⟩⟩,fun hy=>⟨ws.length - (j+1),by omega,Up.of ⟨j+1,out,hlt2',rfl,by omega,?_,?_⟩⟩⟩
   ·grind
   ·rw[Ak (by omega)]
    unfold Te
    grind
   ·grind
   grind [Ak]
  ·rw[List.drop_of_length_le (by have:=AI hge2;omega)]at hoq
   have hoq:out=G:=by simpa[DW] using hoq
   subst hoq
   have hp:decide ((out.length:Int) > 0)=decide (0<out.length):=by grind
   rw[hp]
   refine⟨_,Wu h.ok hw,fun hy=>?_,fun hy=>⟨L.length - (k+1),by omega,Up.of ⟨k+1,hlt',rfl,?_,?_⟩⟩⟩
   ·rw[Cn]at hy
    rw[hq,hy]
    exact⟨trivial,VV.le_refl _⟩
   ·grind
   grind [Ak]
 ·rw[hq,List.drop_of_length_le (by have:=AI hge;omega)]
  exact⟨trivial,VV.le_nil⟩
set_option maxRecDepth 10000 in
theorem T5 (h:B5 e):MtR e (Bm e):=by
 intro c m
 have hp:=h.ok.fit.p
 refine Ag Ai Aj Tryz.func152 (by kernel_rfl) rfl (WQ _ e c m) ?_
 refine Aq.own 3 7 3 (ET []) rfl ?_
 refine AA Ai Aj (fun g st=>∃ k:Nat,k<=e.S.Procs.length/\g=e.S.Procs.length - k/\st=YJ e c m (Da e c m k) k) (by kernel_rfl) (by kernel_rfl) ⟨e.S.Procs.length,Up.of ⟨0,Nat.zero_le _,rfl,rfl⟩⟩ ?_
 rintro g st ⟨k,hk,rfl,rfl⟩
 have hlen:=Kv (c:=c) (m:=m) h hk
 refine AY.raw (T6 _ e c m _ k _) ⟨fun hlt=>?_,fun hge=>⟨trivial,?_⟩⟩
 ·have hlt':k<e.S.Procs.length:=by have:=AG hlt;omega
  have hr:=QG (c:=c) (m:=m) (h.at hlt')
  refine⟨fun hy=>⟨_,Ko,DO (Bq e k) c m,WI (h.at hlt'),by omega,fun i _=>rfl,e.S.Procs.length - (k+1),by omega,
   Up.mk (hs':=[.box (Ah e),.arr true 0 ((Da e c m k).length+(DO (Bq e k) c m).length) 3 (ET (Da e c m k++DO (Bq e k) c m))]) (AU _) ⟨Ob.le_refl _,Ob.le_arr fun i hi=>AZ ?_,trivial⟩ ⟨k+1,hlt',rfl,?_⟩⟩,fun hy=>⟨e.S.Procs.length - (k+1),by omega,Up.of ⟨k+1,hlt',rfl,?_⟩⟩⟩
  ·exact Bz (f:=Il) (d:=default) (l:=Da e c m k) (r:=DO (Bq e k) c m) (F:=ET (Da e c m k)) (fun _ _=>rfl) (fun _ _=>rfl) (by simpa using hi)
  ·rw[CY]at hy
   have e1:Da e c m (k+1)=Da e c m k++DO (Bq e k) c m:=by
    show Da e c m k++(bif decide ((k:Int)≠e.Pid) then _ else _)=_
    rw[hy,cond_true]
   rw[Ak (by omega),e1]
   unfold YJ
   grind
  ·rw[CY]at hy
   have e1:Da e c m (k+1)=Da e c m k:=by
    show Da e c m k++(bif decide ((k:Int)≠e.Pid) then _ else _)=_
    grind
   grind [Ak]
 ·obtain rfl:k=e.S.Procs.length:=by have:=AI hge;omega
  exact VV.le_refl _
end
section
variable {e : D.Env}
theorem Qx {out:List Wy}{x:Wy}{i:Nat}(hi:i<out.length+1):(bif i.blt out.length then Bu (out.getD i default) else List.take 6 (List.drop ((i - out.length)*6) (Bu x)))=Gp (out++[x]) i :=
 Ah3 (x:=x) (G:=fun i=>List.take 6 (List.drop (i*6) (Bu x))) rfl hi
theorem WT {r:List Wy}{L:List Int}{i:Int}{C:List Ab}{k:Nat}(hk:k<L.length)(hi:i=L.getD k 0)(hC:C.length<=1024)(hwth:∀ x∈C,x.wth.length<=16384){J:St->Prop}
  (hJ:∀ st',Up (fun st=>st=Qj e true L (DC i 0 C) (IntKind.i64.wrap ((k:Int)+1))) st'->J st') :
  Aq ((fc A9 DR Tryz.f18 [] (BY true r)).loop [1,1,1,1,1,1,0,1,0] J) [1,0,0,1,1,0] (M1 e true L [] k C 0):=by
 refine AA Ai Aj (fun g st=>∃ (j:Nat) (out:List Wy),j<=C.length/\g=C.length - j/\out.length<=j*16385/\out++DC i j (C.drop j)=DC i 0 C/\st=M1 e true L out k C j) (by kernel_rfl) (by kernel_rfl) ⟨C.length,Up.of ⟨0,[],Nat.zero_le _,rfl,Nat.zero_le _,rfl,rfl⟩⟩ ?_
 rintro g st ⟨j,out,hj,rfl,ho,hq,rfl⟩
 refine AY.raw (Wn r e true L out k C j _ _) ⟨fun hlt=>?_,fun hge=>?_⟩
 ·have hlt':j<C.length:=by have:=AG hlt;omega
  have hto:(j:Int).toNat=j:=by omega
  have htk:(k:Int).toNat=k:=by omega
  have hinj:inX (j:Int) C.length:=⟨by omega,by omega⟩
  have hx:=hwth _ (An (d:=default) hlt')
  rw[hto,htk,← hi]
  rw[Bb (d:=default) hlt',P8]at hq
  generalize hX:C.getD j default=x at hq hx ⊢
  have hko:j*16385<=1024*16385:=Nat.mul_le_mul_right _ (by omega)
  have key:∀ (J2:St->Prop) (out1:List Wy),out1.length<=j*16385+1->out1++(x.wth.map (JY i j x.err)++DC i (j+1) (C.drop (j+1)))=DC i 0 C ->
    (∀ st',Up (fun st=>∃ out2:List Wy,out2.length<=(j+1)*16385/\out2++DC i (j+1) (C.drop (j+1))=DC i 0 C/\st=M1 e true L out2 k C ((j+1:Nat):Int)) st'->J2 st') ->
    Aq (((fc A9 DR Tryz.f18 [] (BY true r)).loop [1,1,1,1,1,1,0,1,0] J).loop [1,0,0,1,1,0] J2) [1,0,0,1,1,1,0] (Tc e true L out1 k C j ⟨i,j,-1,-1,-1,x.err⟩ 0):=by
   intro J2 out1 ho1 hq1 hJ2
   refine AA Ai Aj (fun g st=>∃ (h:Nat) (w:Wy) (o:List Wy),h<=x.wth.length/\g=x.wth.length - h/\o.length<=j*16385+1+h/\o++((x.wth.drop h).map (JY i j x.err)++DC i (j+1) (C.drop (j+1)))=DC i 0 C/\(w.Esc=i/\w.Way=j/\w.Err=x.err)/\st=Tc e true L o k C j w h) (by kernel_rfl) (by kernel_rfl)
    ⟨x.wth.length,Up.of ⟨0,_,out1,Nat.zero_le _,rfl,ho1,hq1,⟨rfl,rfl,rfl⟩,rfl⟩⟩ ?_
   rintro g st ⟨h,w,o,hh,rfl,hol,hoq,⟨w1,w2,w3⟩,rfl⟩
   refine AY.raw (Wm r e true L o k C j w h _ _ _) ?_
   rw[hto,hX]
   refine⟨hinj,fun hlt2=>?_,fun hge2=>?_⟩
   ·have hlt2':h<x.wth.length:=by have:=AG hlt2;omega
    have hto2:(h:Int).toNat=h:=by omega
    have hinh:inX (h:Int) x.wth.length:=⟨by omega,by omega⟩
    rw[hto2]
    rw[Bb (d:=default) hlt2',List.map_cons,List.cons_append]at hoq
    generalize x.wth.getD h default=p at hoq ⊢
    rw[w1,w2,w3]
    refine⟨hinj,hinh,hinj,hinh,hinj,hinh,by omega,x.wth.length - (h+1),by omega,Up.mk (hs':=[.box (Ah e),.arr true 0 (o.length+1) 6 (Gp (o++[JY i j x.err p])),.box (Bu (JY i j x.err p))]) (AU _)
     ⟨Ob.le_refl _,Ob.le_arr fun t ht=>AZ (Qx (x:=JY i j x.err p) ht),Ob.le_refl _,trivial⟩ ⟨h+1,JY i j x.err p,o++[JY i j x.err p],hlt2',rfl,by simp;omega,by grind,⟨rfl,rfl,rfl⟩,?_⟩⟩
    rw[Ak (by omega)]
    unfold Tc
    grind
   ·have hge2':x.wth.length<=h:=by have:=AI hge2;omega
    grind [List.drop_of_length_le,Up.of,Ak]
  have next:∀ st',Up (fun st=>∃ out2:List Wy,out2.length<=(j+1)*16385/\out2++DC i (j+1) (C.drop (j+1))=DC i 0 C/\st=M1 e true L out2 k C ((j+1:Nat):Int)) st' ->
    ∃ g',g'<C.length - j/\Up (fun st=>∃ (j:Nat) (out:List Wy),j<=C.length/\g'=C.length - j/\out.length<=j*16385/\out++DC i j (C.drop j)=DC i 0 C/\st=M1 e true L out k C j) st':=by
   rintro st' ⟨s',hc,out2,h1,h2,h3⟩
   exact⟨C.length - (j+1),by omega,s',hc,j+1,out2,hlt',rfl,h1,h2,h3⟩
  have ez:((x.wth.length:Int)==0)=decide (x.wth.length=0):=by grind
  refine⟨⟨by omega,by omega⟩,hinj,hinj,fun _=>hinj,fun hy=>⟨by omega,?_⟩,fun hy=>?_⟩
  ·rw[BD,ez]at hy
   have hw0:Fa i j x=Wy.mk i j (-1) (-1) (-1) x.err::x.wth.map (JY i j x.err):=by unfold Fa;rw[hy]<;>rfl
   rw[hw0]at hq
   refine Aq.le (hs':=[.box (Ah e),.arr true 0 (out.length+1) 6 (Gp (out++[Wy.mk i j (-1) (-1) (-1) x.err])),.box (Bu (Wy.mk i j (-1) (-1) (-1) x.err))]) (AU _)
     ⟨Ob.le_refl _,Ob.le_arr fun t ht=>AZ (Qx (x:=Wy.mk i j (-1) (-1) (-1) x.err) ht),Ob.le_refl _,trivial⟩ ?_
   have hk1:=key _ (out++[Wy.mk i j (-1) (-1) (-1) x.err]) (by simp;omega) (by rw[List.append_assoc];exact hq) next
   unfold Tc at hk1
   rw[List.length_append]at hk1
   exact hk1
  ·rw[BD,ez]at hy
   have hw0:Fa i j x=x.wth.map (JY i j x.err):=by unfold Fa;rw[hy]<;>rfl
   rw[hw0]at hq
   exact key _ out (Nat.le_succ_of_le ho) hq next
 ·rw[List.drop_of_length_le (by have:=AI hge;omega)]at hq
  have hq:out=DC i 0 C:=by simpa[DC] using hq
  grind [Up.of]
theorem Gt (h:B5 e):Al Tryz.prog 18 [] [.agg (Ah e)] [] (BY true (AF e)):=by
 have hp:=h.ok.fit.p
 have hq:AF e=bif decide ((Ci e e.Pid).Loc=(BQ e).Final) then(bif decide (e.Pid=(e.S.Procs.length:Int) - 1) then[Nl 0] else[])
  else bif decide ((A6 e).2≠0) then[Nl (A6 e).2] else bif !(A6 e).1 then[] else EI e (Gx (Br e)):=rfl
 rw[Q0]at hq
 generalize AF e=r at hq
 have hesc:=h.wloc.Esc.1
 have hord:=fun i=>AeN (n:=(Br e).Esc.length) (i:=i)
 refine Ag Ai Aj Tryz.func18 (by kernel_rfl) rfl (AaE r e) ⟨⟨h.p0,h.ok.pid.2⟩,BQ e,Mf h,fun h1=>⟨fun h2=>⟨_,LB,Ae5 ?_⟩,fun h2=>?_⟩,fun h1=>⟨A6 e,ON h,fun h2=>⟨_,LB,Ae5 ?_⟩,fun h2=>⟨_,Nf h,?_⟩⟩⟩
 ·rw[AL (by omega) (by omega),ieq]at h2
  rw[hq,show decide ((Ci e e.Pid).Loc=(BQ e).Final)=true by rw[← ieq];exact h1,h2]<;>rfl
 ·rw[AL (by omega) (by omega),ieq]at h2
  rw[hq,show decide ((Ci e e.Pid).Loc=(BQ e).Final)=true by rw[← ieq];exact h1,h2]
  exact⟨trivial,VV.le_nil⟩
 ·rw[hq,show decide ((Ci e e.Pid).Loc=(BQ e).Final)=false by rw[← ieq];exact h1,show decide ((A6 e).2≠0)=true by simpa using h2]<;>rfl
 rw[show decide ((Ci e e.Pid).Loc=(BQ e).Final)=false by rw[← ieq];exact h1,show decide ((A6 e).2≠0)=false by simpa using h2,cond_false,cond_false]at hq
 have hLl:(Hr (Br e).Esc.length++[-1]).length<=1048577:=by rw[List.length_append,LI];exact Nat.succ_le_succ hesc
 generalize Hr (Br e).Esc.length++[-1]=L at hq hord hLl ⊢
 refine Aq.own 3 6 6 (Gp []) rfl ?_
 change Aq _ _ (Qj e (A6 e).1 L [] ((0:Nat):Int))
 generalize (A6 e).1=op at hq ⊢
 cases op with
 | false =>
  refine AA Ai Aj (fun _ st=>st=Qj e false L [] ((0:Nat):Int)) (by kernel_rfl) (by kernel_rfl) ⟨0,Up.of rfl⟩ ?_
  rintro g st rfl
  refine AY.raw (OJ r e false L [] ((0:Nat):Int) _) ⟨fun hy=>?_,fun _=>?_⟩
  ·grind
  ·rw[hq]
   exact⟨trivial,VV.le_refl _⟩
 | true =>
  change r=EI e (L.map fun i=>(i,GZ (Br e) i)) at hq
  refine AA Ai Aj (fun g st=>∃ (k:Nat) (out:List Wy),k<=L.length/\g=L.length - k/\r=(bif decide (out.length=0) then EI e ((L.drop k).map fun i=>(i,GZ (Br e) i)) else out)/\st=Qj e true L out k) (by kernel_rfl) (by kernel_rfl) ⟨_,Up.of ⟨0,[],Nat.zero_le _,rfl,hq,rfl⟩⟩ ?_
  rintro g st ⟨k,out,hk,rfl,hq,rfl⟩
  have ez:((out.length:Int)==0)=decide (out.length=0):=by grind
  refine AY.raw (OJ r e true L out k _) ⟨fun hy=>?_,fun hy=>?_⟩
  ·rw[BD,BD,Bool.and_true,ez,Bool.and_eq_true]at hy
   have hlt':k<L.length:=by have:=AG hy.1;omega
   have h0:out=[]:=(by grind)
   subst h0
   have hto:(k:Int).toNat=k:=by omega
   rw[hto]
   have hq:r=EI e ((L.drop k).map fun i=>(i,GZ (Br e) i)):=hq
   rw[Bb (d:=0) hlt',List.map_cons,Xo]at hq
   have hi:=hord _ (An (d:=0) hlt')
   have hw:=h.ws (Q1 hi)
   refine⟨⟨by omega,by omega⟩,_,Gu h hi,_,W7 h.ok hw (T5 h),?_⟩
   generalize GZ (Br e) (L.getD k 0)=ws at hq hw
   refine WT hlt' rfl (by rw[AfK];exact hw.len) (U2 h) fun st' hst=>⟨L.length - (k+1),by omega,?_⟩
   obtain⟨s',hc,rfl⟩:=hst
   refine⟨_,hc,k+1,_,hlt',rfl,?_,by rw[Ak (by omega)]⟩
   grind
  ·rw[BD,BD,Bool.and_true,ez]at hy
   rw[hq]
   refine⟨trivial,VV.le_eq ?_⟩
   cases c:decide (out.length=0) with
   | false=>rfl
   | true =>
    rw[c,Bool.and_true]at hy
    have h0:out=[]:=(by grind)
    rw[h0,List.drop_of_length_le (by grind)]<;>rfl
end
theorem U7 {f:List D.Type}{args l:List Int}{k:Nat}:(KI f args l k).length=l.length:=by simp[KI]
theorem Sx {f:List D.Type}{args l:List Int}{k i:Nat}(hi:i<l.length):(KI f args l k).getD i 0=if i<k then KB (f.getD i default) (args.getD i 0) else l.getD i 0:=by simp[KI,List.getD,hi]
theorem Acb {f:List D.Type}{args l:List Int}:KI f args l 0=l:=by
 apply List.ext_getElem (by simp[KI])
 intro i h1 h2
 simp[KI,List.getD,h2]
theorem OR {s:D.State}(hf:Fit s){hs':List Ob}{r:VV}(h:Aq (Df Tryz.prog tb B2 DS false Tryz.f52 hs' r) [1,1,1,1,0,1,0] (Ql s s.Chans [] 0)):Al Tryz.prog 52 [] [.agg (Ae s)] hs' r:=by
 have hg:=hf.g
 have hc:=hf.c
 refine Ag Ai Aj Tryz.func52 (by kernel_rfl) rfl (Aa5 hs' r s) ⟨by omega,fun _ _=>rfl,?_⟩
 refine AA Ai Aj (fun g st=>∃ k:Nat,k<=s.Chans.length/\g=s.Chans.length - k/\st=Ahr s (s.Chans.take k) k) (by kernel_rfl) (by kernel_rfl) ⟨_,Up.cv (Cv.ownBox 2 1 2 (CL []) rfl rfl) (Up.of ⟨0,Nat.zero_le _,rfl,rfl⟩)⟩ ?_
 rintro g st ⟨k,hk,rfl,rfl⟩
 have hlk:(s.Chans.take k).length=k:=by simp;omega
 have hto:(k:Int).toNat=k:=by omega
 refine AY.raw (W6 _ _ s (s.Chans.take k) k _) ⟨fun hlt=>?_,fun hge=>?_⟩
 ·have hlt':k<s.Chans.length:=by have:=AG hlt;omega
  have hpush:s.Chans.take (k+1)=s.Chans.take k++[s.Chans.getD k default]:=CU hlt'
  have hq:=hf.q _ (An (d:=default) hlt')
  rw[hto]
  refine⟨⟨by omega,by omega⟩,?_⟩
  refine AA Ai Aj (fun g st=>∃ j:Nat,j<=(s.Chans.getD k default).Queue.length/\g=(s.Chans.getD k default).Queue.length - j/\st=Ahq s (s.Chans.take k) k (s.Chans.getD k default).Shape ((s.Chans.getD k default).Queue.take j) j) (by kernel_rfl) (by kernel_rfl) ⟨_,Up.cv (Cv.ownBox 5 1 1 (Ed []) rfl rfl) (Up.of ⟨0,Nat.zero_le _,rfl,rfl⟩)⟩ ?_
  rintro g st ⟨j,hj,rfl,rfl⟩
  have hlj:((s.Chans.getD k default).Queue.take j).length=j:=by rw[List.length_take];omega
  have hto2:(j:Int).toNat=j:=by omega
  refine AY.raw (W5 _ _ s (s.Chans.take k) k (s.Chans.getD k default).Shape ((s.Chans.getD k default).Queue.take j) j _ _) ?_
  rw[hto,hto2]
  generalize s.Chans.getD k default=c at hpush hq hj hlj ⊢
  refine⟨⟨by omega,by omega⟩,fun hlt2=>?_,fun hge2=>?_⟩
  ·have hlt2':j<c.Queue.length:=by have:=AG hlt2;omega
   have hpush2:c.Queue.take (j+1)=c.Queue.take j++[c.Queue.getD j []]:=CU hlt2'
   have hm:=hq.2 _ (An (d:=[]) hlt2')
   refine⟨⟨by omega,by omega⟩,⟨by omega,by omega⟩,by omega,fun _ _=>rfl,by rw[hlj];omega,c.Queue.length - (j+1),by omega,?_⟩
   rw[Ak (by omega)]
   refine Up.mk (l':=[(1,.bp 0 0),(2,.bp 1 0),(3,.bp 2 0),(4,Aa k),(5,.bp 5 0),(6,Aa ((j+1:Nat):Int))])
    (hs':=[.box (Ae s),.box DU,.box (AQ s (.ow 3 0 s.Globals.length) (.ow 4 0 (s.Chans.take k).length) .nl),obG s,.arr true 0 (s.Chans.take k).length 2 (CL (s.Chans.take k)),.box [Aa c.Shape,.ow 6 0 (c.Queue.take (j+1)).length],.arr true 0 (c.Queue.take (j+1)).length 1 (Ed (c.Queue.take (j+1)))]) (AU _) ?_ ⟨j+1,by omega,rfl,rfl⟩
   rw[hpush2,List.length_append]
   refine⟨Ob.le_refl _,Ob.le_refl _,Ob.le_refl _,Ob.le_refl _,Ob.le_refl _,Ob.le_refl _,Ob.le_arr fun i hi=>AZ ?_,trivial⟩
   exact Bz (l:=c.Queue.take j) (r:=[c.Queue.getD j []]) (f:=fun w=>[Ad true w]) (d:=[]) (F:=fun i=>[Ad true ((c.Queue.take j).getD i [])]) (G:=fun i=>[[Ad true (c.Queue.getD j [])]].getD i []) (fun i hi=>rfl) (fun i hi=>by
    obtain rfl:i=0:=by simpa using hi
    rfl) (by simpa using hi)
  ·have hge2':c.Queue.length<=j:=by have:=AI hge2;omega
   rw[List.take_of_length_le hge2']
   refine⟨by rw[hlk];omega,s.Chans.length - (k+1),by omega,?_⟩
   rw[Ak (by omega)]
   refine Up.mk (l':=[(1,.bp 0 0),(2,.bp 1 0),(3,.bp 2 0),(4,Aa ((k+1:Nat):Int))])
    (hs':=[.box (Ae s),.box DU,.box (AQ s (.ow 3 0 s.Globals.length) (.ow 4 0 (s.Chans.take (k+1)).length) .nl),obG s,.arr true 0 (s.Chans.take (k+1)).length 2 (CL (s.Chans.take (k+1)))]) (AU _) ?_ ⟨k+1,by omega,rfl,rfl⟩
   rw[hpush,List.length_append]
   refine⟨Ob.le_refl _,Ob.le_refl _,Ob.le_refl _,Ob.le_refl _,Ob.le_arr fun i hi=>AZ ?_,trivial⟩
   exact Bz (l:=s.Chans.take k) (r:=[c]) (f:=Aw) (d:=default) (F:=CL (s.Chans.take k)) (G:=fun i=>[Aw c].getD i []) (fun i hi=>rfl) (fun i hi=>by
    obtain rfl:i=0:=by simpa using hi
    rfl) (by simpa using hi)
 ·have hge':s.Chans.length<=k:=by have:=AI hge;omega
  rw[List.take_of_length_le hge']
  exact Aq.cv (Cv.ownBox 2 2 4 (C9 []) rfl rfl) h
theorem Fi {s:D.State}(hf:Fit s):Al Tryz.prog 52 [] [.agg (Ae s)] [obG s,obC s,obP s] (.agg (AQ s (.ow 0 0 s.Globals.length) (.ow 1 0 s.Chans.length) (.ow 2 0 s.Procs.length))):=by
 have hp:=hf.p
 refine OR hf ?_
 refine AA Ai Aj (fun g st=>∃ k:Nat,k<=s.Procs.length/\g=s.Procs.length - k/\st=Ql s s.Chans (s.Procs.take k) k) (by kernel_rfl) (by kernel_rfl) ⟨_,Up.of ⟨0,Nat.zero_le _,rfl,rfl⟩⟩ ?_
 rintro g st ⟨k,hk,rfl,rfl⟩
 have hlk:(s.Procs.take k).length=k:=by simp;omega
 refine AY.raw (OS _ _ s s.Chans (s.Procs.take k) k _) ⟨fun hlt=>?_,fun hge=>?_⟩
 ·have hlt':k<s.Procs.length:=by have:=AG hlt;omega
  have hto:(k:Int).toNat=k:=by omega
  rw[hto]
  have hpush:s.Procs.take (k+1)=s.Procs.take k++[s.Procs.getD k default]:=CU hlt'
  have hq:=hf.f _ (An (d:=default) hlt')
  generalize s.Procs.getD k default=p at hpush hq ⊢
  refine⟨⟨by omega,by omega⟩,⟨by omega,by omega⟩,by omega,fun _ _=>rfl,by rw[hlk];omega,s.Procs.length - (k+1),by omega,?_⟩
  rw[Ak (by omega)]
  refine Up.mk (l':=[(1,.bp 0 0),(2,.bp 1 0),(3,.bp 2 0),(8,Aa ((k+1:Nat):Int))])
   (hs':=[.box (Ae s),.box DU,.box (AQ s (.ow 3 0 s.Globals.length) (.ow 4 0 s.Chans.length) (.ow 5 0 (s.Procs.take (k+1)).length)),obG s,.arr true 0 s.Chans.length 2 (CL s.Chans),.arr true 0 (s.Procs.take (k+1)).length 4 (C9 (s.Procs.take (k+1)))]) (AU _) ?_ ⟨k+1,by omega,rfl,rfl⟩
  rw[hpush,List.length_append]
  refine⟨Ob.le_refl _,Ob.le_refl _,Ob.le_refl _,Ob.le_refl _,Ob.le_refl _,Ob.le_arr fun i hi=>AZ ?_,trivial⟩
  exact Bz (l:=s.Procs.take k) (r:=[p]) (f:=AB) (d:=default) (F:=fun i=>AB ((s.Procs.take k).getD i default)) (G:=fun i=>[AB p].getD i []) (fun i hi=>rfl) (fun i hi=>by
   obtain rfl:i=0:=by simpa using hi
   rfl) (by simpa using hi)
 ·have hge2:s.Procs.length<=k:=by have:=AI hge;omega
  rw[List.take_of_length_le hge2]
  exact⟨⟨Ob.le_refl _,Ob.le_refl _,Ob.le_refl _,trivial⟩,VV.le_refl _⟩
theorem Kp {x:List Int}(hx:x.length<=1048576):Al Tryz.prog 25 [] [Ad true x,Ad true x] [] (Ac true):=by
 refine Ag Ai Aj Tryz.func25 (by kernel_rfl) rfl (AaY true x x) ⟨fun h=>by simp at h,fun _=>?_⟩
 refine AA Ai Aj (fun g st=>∃ k:Nat,k<=x.length/\g=x.length - k/\st=IU x x k) (by kernel_rfl) (by kernel_rfl) ⟨_,Up.of ⟨0,Nat.zero_le _,rfl,rfl⟩⟩ ?_
 rintro g st ⟨k,hk,rfl,rfl⟩
 refine AY.raw (WP true x x k _) ⟨fun hlt=>?_,fun _=>⟨trivial,VV.le_refl _⟩⟩
 have hlt':k<x.length:=by have:=AG hlt;omega
 refine⟨⟨by omega,by omega⟩,⟨by omega,by omega⟩,fun h=>by simp at h,fun _=>⟨x.length - (k+1),by omega,Up.of ⟨k+1,hlt',rfl,?_⟩⟩⟩
 rw[Ak (by omega)]
theorem TZ {c:D.Chan}(hq:c.Queue.length<=1048576)(hm:∀ m∈c.Queue,m.length<=1048576):Al Tryz.prog 26 [] [.agg (Aw c),.agg (Aw c)] [] (Ac true):=by
 refine Ag Ai Aj Tryz.func26 (by kernel_rfl) rfl (WB true c c) ⟨fun h=>by simp at h,fun _=>?_⟩
 refine AA Ai Aj (fun g st=>∃ k:Nat,k<=c.Queue.length/\g=c.Queue.length - k/\st=YF c c k) (by kernel_rfl) (by kernel_rfl) ⟨_,Up.of ⟨0,Nat.zero_le _,rfl,rfl⟩⟩ ?_
 rintro g st ⟨k,hk,rfl,rfl⟩
 refine AY.raw (T0 true c c k _) ⟨fun hlt=>?_,fun _=>⟨trivial,VV.le_refl _⟩⟩
 have hlt':k<c.Queue.length:=by have:=AG hlt;omega
 have hto:(k:Int).toNat=k:=by omega
 rw[hto]
 refine⟨⟨by omega,by omega⟩,⟨by omega,by omega⟩,true,Kp (hm _ (An hlt')),fun h=>by simp at h,fun _=>⟨c.Queue.length - (k+1),by omega,Up.of ⟨k+1,hlt',rfl,?_⟩⟩⟩
 rw[Ak (by omega)]
theorem WC {s:D.State}(hf:Fit s):Al Tryz.prog 11 [] [.agg (Ae s),.agg (Ae s)] [] (Ac true):=by
 have hg:=hf.g
 have hc:=hf.c
 have hp:=hf.p
 refine Ag Ai Aj Tryz.func11 (by kernel_rfl) rfl (AaO true s s) ⟨true,Kp (by omega),fun h=>by simp at h,fun _=>?_⟩
 refine AA Ai Aj (fun g st=>∃ k:Nat,k<=s.Chans.length/\g=s.Chans.length - k/\st=M2 s s 6 k) (by kernel_rfl) (by kernel_rfl) ⟨_,Up.of ⟨0,Nat.zero_le _,rfl,rfl⟩⟩ ?_
 rintro g st ⟨k,hk,rfl,rfl⟩
 refine AY.raw (WE true s s k _) ⟨fun hlt=>?_,fun _=>?_⟩
 ·have hlt':k<s.Chans.length:=by have:=AG hlt;omega
  have hto:(k:Int).toNat=k:=by omega
  have hq:=hf.q _ (An (d:=default) hlt')
  rw[hto]
  refine⟨⟨by omega,by omega⟩,⟨by omega,by omega⟩,true,TZ (by omega) (fun m hm=>by have:=hq.2 m hm;omega),fun h=>by simp at h,fun _=>⟨s.Chans.length - (k+1),by omega,Up.of ⟨k+1,hlt',rfl,?_⟩⟩⟩
  rw[Ak (by omega)]
 ·refine AA Ai Aj (fun g st=>∃ k:Nat,k<=s.Procs.length/\g=s.Procs.length - k/\st=M2 s s 7 k) (by kernel_rfl) (by kernel_rfl) ⟨_,Up.of ⟨0,Nat.zero_le _,rfl,rfl⟩⟩ ?_
  rintro g st ⟨k,hk,rfl,rfl⟩
  refine AY.raw (WD true s s k _) ⟨fun hlt=>?_,fun _=>⟨trivial,VV.le_refl _⟩⟩
  have hlt':k<s.Procs.length:=by have:=AG hlt;omega
  have hto:(k:Int).toNat=k:=by omega
  have hq:=hf.f _ (An (d:=default) hlt')
  rw[hto]
  refine⟨⟨by omega,by omega⟩,⟨by omega,by omega⟩,true,Kp (by omega),fun h=>by simp at h,fun _=>⟨s.Procs.length - (k+1),by omega,Up.of ⟨k+1,hlt',rfl,?_⟩⟩⟩
  rw[Ak (by omega)]
theorem Ub {m:D.Model}{typ:Int}{args:List Int}(hw:A2 m)(h0:0<=typ/\typ<m.Procs.length)(_:args.length<=1048576)(h1:args.length<=(AN m typ).Frame.length)(h2:args.length<=(AN m typ).Init.length) :
  Al Tryz.prog 123 [] [.agg (Af m),Aa typ,Ad true args] [] (.agg (AB (Ft m typ args))):=by
 have hp:=hw.Procs.2 _ (An (d:=default) (show typ.toNat<m.Procs.length by omega))
 have hi:(AN m typ).Init.length<=1048576:=hp.Init.1
 generalize hq:Ft m typ args=r
 refine Ag Ai Aj Tryz.func123 (by kernel_rfl) rfl (Xa r m typ args) ⟨h0,by show(AN m typ).Init.length*8<=_;omega,fun _ _=>rfl,?_⟩
 change Aq _ _ (YN m typ args (AN m typ).Init 0)
 refine AA Ai Aj (fun g st=>∃ k:Nat,k<=args.length/\g=args.length - k/\st=YN m typ args (KI (AN m typ).Frame args (AN m typ).Init k) k) (by kernel_rfl) (by kernel_rfl) ⟨_,Up.of ⟨0,Nat.zero_le _,rfl,by rw[Acb]<;>rfl⟩⟩ ?_
 rintro g st ⟨k,hk,rfl,rfl⟩
 generalize hL:(AN m typ).Init=l at *
 generalize hF:(AN m typ).Frame=f at *
 refine AY.raw (Uc r m typ args (KI f args l k) k _) ⟨fun hlt=>?_,fun hge=>?_⟩
 ·have hlt':k<args.length:=by have:=AG hlt;omega
  have hto:(k:Int).toNat=k:=by omega
  rw[hto,hF,U7]
  refine⟨⟨by omega,by omega⟩,⟨by omega,by omega⟩,KB (f.getD k default) (args.getD k 0),F7 _ _,⟨by omega,by omega⟩,args.length - (k+1),by omega,Up.mk (hs':=[.box Acq,.box (AO (AN m typ)),.box [Aa typ,Aa (AN m typ).Start,Aa (AN m typ).Prio,.ow 3 0 l.length],.arr true 0 l.length 1 (AJ (KI f args l (k+1)))]) (AU _) ⟨Ob.le_refl _,Ob.le_refl _,Ob.le_refl _,Ob.le_arr fun j hj=>AZ ?_,trivial⟩ ⟨k+1,hlt',rfl,?_⟩⟩
  ·by_cases hjk:j=k
   ·subst hjk
    simp only[Nat.beq_refl,cond_true]
    unfold AJ
    rw[Sx hj,if_pos (Nat.lt_succ_self _)]
   ·simp only[Bd hjk,cond_false]
    unfold AJ
    rw[Sx hj,Sx hj]
    by_cases h:j<k
    ·rw[if_pos h,if_pos (by omega)]
    ·rw[if_neg h,if_neg (by omega)]
  ·rw[Ak (by omega)]
   unfold YN
   rw[U7]
 ·have hge':args.length<=k:=by have:=AI hge;omega
  obtain rfl:k=args.length:=by omega
  refine⟨trivial,VV.le_eq ?_⟩
  rw[← hq]
  unfold Ft
  rw[hL,hF]
  rfl
theorem Aq.forget {c:Ctx}{rel:List Nat}{st:St}(keep:List Nat)(hk:okF c.L.base keep st=true)(h:Aq c rel (Go.Proofs.YtlhajmkjfcbhnaaGreat.forget c.L.base keep st)):Aq c rel st :=
 ⟨fun E _ a w hr=>let ⟨φ1,r1,f1⟩:=hr.forget hk
  Go.wp_mono (h.h E φ1 a w r1) fun _ _ _ ⟨E',st',φ',h0,h1,h2,h3⟩=>⟨E',st',φ',h0,h1,h2,f1.trans h3⟩⟩
end Go.Proofs.YtlhajmkjfcbhnaaGreat
