/-
  Texts, joined: GdW1, GdW2, GdW3, GdW4, GdW5, GdW6, CkP, CkS, CkA, CkH, CkW, Touch, StClone, ExS, CoP, CoV, CellRet, Scope, CoW, ExA, ExH, ValPlain, TwoPlain, ExP, ExOne, ExW1, ExW2, ExW3, ExW4, ExW5, EbP, EbS, EbW, EbX, EbV, EbY.
-/
import Derived.Test.YtmdcknlpalfhhaaGreatDoorTkB
import Derived.KernelRfl
import Derived.WalkKit
import Derived.OneCell
import Derived.Deep.QuietTactic
import Derived.BigRegion
import Derived.Deep.RegionLaw
import Derived.Deep.AppendLies
import Derived.Lib.SliceRun
import Derived.Lib.Hide
import Derived.Laws.Rows
import Derived.Test.YtmdcknlpalfhhaaGreatDoorProg
import Derived.WalkSpells
import Derived.WalkLawsBesides
import Derived.BigQuiet
namespace Go.Proofs.YtmdcknlpalfhhaaGreatDoor
open Go.RowKit
theorem AG {a b:Bool}(h:a=b):leO [] []/\VV.le (.sc (.bool a)) (.sc (.bool b)):=⟨trivial,Ama (by rw[h])⟩
theorem C2 {a b:Int}(h:a=b):leO [] []/\VV.le (.sc (.int .i64 a)) (.sc (.int .i64 b)):=⟨trivial,Ama (by rw[h])⟩
theorem Mw {a b c d:Int}(h:(a,b)=(c,d)):leO [] []/\VV.le (.tup [.sc (.int .i64 a),.sc (.int .i64 b)]) (.tup [.sc (.int .i64 c),.sc (.int .i64 d)]):=by
 simp only[AlH]at h;exact⟨trivial,Ama (by rw[h.1,h.2])⟩
theorem Vb {a b c d e f:Int}(h:(a,b,c)=(d,e,f)):leO [] []/\VV.le (.tup [.sc (.int .i64 a),.sc (.int .i64 b),.sc (.int .i64 c)]) (.tup [.sc (.int .i64 d),.sc (.int .i64 e),.sc (.int .i64 f)]):=by
 simp only[AlH]at h;exact⟨trivial,Ama (by rw[h.1,h.2.1,h.2.2])⟩
theorem AV {a b:Int}(h:decide (a<b)=true):a<b:=Ak9 h
theorem A0 {a b:Int}(h:decide (a<b)=false):b<=a:=by have:=Alk h;omega
theorem AjK {n:Int}(h:Ev.wInt .i64 n):-9223372036854775808<=n/\n<=9223372036854775807:=AdD.1 h
theorem Ug (t:D.Type):Ai Tryz.prog 108 [] [.agg (Dx t)] [] (Ac (Hx t)):=by
 refine Ah Al Am Tryz.func108 (by kernel_rfl) rfl (Ago _ t) (AG ?_)
 rw[Alq];simp[Hx];cases t.Signed<;>simp<;>omega
theorem Aio {t:D.Type}(h:Hx t=true):1<=t.Bits/\t.Bits<=32/\(t.Signed=true->t.Bits=16∨t.Bits=32):=by
 unfold Hx at h
 simp at h
 refine⟨h.1,h.2.1,fun hs=>?_⟩
 rcases h.2.2 with h | h
 ·rw[hs]at h;cases h
 ·exact h
theorem AeT {n:Nat}(h:n<=32):(1:Int)<=2 ^ n/\(2:Int) ^ n<=4294967296:=by
 have h1:(2:Nat) ^ n<=2 ^ 32:=Amv (by omega) h
 have h2:1<=(2:Nat) ^ n:=Nat.one_le_two_pow
 have e:(2:Int) ^ n=((2 ^ n:Nat):Int):=by simp
 rw[e]
 have e32:(2:Nat) ^ 32=4294967296:=by decide
 omega
theorem Nj (t:D.Type)(v:Int):Ai Tryz.prog 107 [] [.agg (Dx t),Aa v] [] (Ac (DD t v)):=by
 refine Ah Al Am Tryz.func107 (by kernel_rfl) rfl (Afv _ t v) ⟨Hx t,Ug t,fun h=>AG ?_,fun h=>?_⟩
 ·have h':Hx t=false:=by simpa using h
  simp[DD,h']
 ·have h':Hx t=true:=by simpa using h
  obtain⟨h1,h2,h3⟩:=Aio h'
  have hb:IntKind.i64.bits=64:=rfl
  have hw:IntKind.i64.wrap (t.Bits - 1)=t.Bits - 1:=Bt (by omega) (by omega)
  refine⟨fun hs=>?_,fun hs=>?_⟩
  ·rw[hw]
   refine⟨by omega,fun _=>by omega,AG ?_⟩
   have hp:=AeT (n:=(t.Bits - 1).toNat) (by omega)
   have hm:min (t.Bits - 1).toNat IntKind.i64.bits=(t.Bits - 1).toNat:=by rw[hb];omega
   rw[hm,Bt (n:=-1*_) (by omega) (by omega),Bt (n:=1*_) (by omega) (by omega)]
   have e1:(-1:Int)*2 ^ (t.Bits - 1).toNat=-(2 ^ (t.Bits - 1).toNat):=by omega
   have e2:(1:Int)*2 ^ (t.Bits - 1).toNat=2 ^ (t.Bits - 1).toNat:=by omega
   rw[e1,e2]
   simp only[DD,h',hs,Ak4,AlV,Amu]
   cases decide (-(2:Int) ^ (t.Bits - 1).toNat<=v)<;>rfl
  ·refine⟨fun _=>by omega,AG ?_⟩
   have hp:=AeT (n:=t.Bits.toNat) (by omega)
   have hm:min t.Bits.toNat IntKind.i64.bits=t.Bits.toNat:=by rw[hb];omega
   rw[hm,Bt (n:=1*_) (by omega) (by omega)]
   have e2:(1:Int)*2 ^ t.Bits.toNat=2 ^ t.Bits.toNat:=by omega
   rw[e2]
   simp only[DD,h',hs,Ak0,AlV,Amu]
   cases decide (0<=v)<;>rfl
theorem GP {v:D.Var}(hv:K5 v):Ai Tryz.prog 116 [] [.agg (Cq v)] [] (Aa (Es v)):=by
 have hd:=hv.Dims
 refine Ah Al Am Tryz.func116 (by kernel_rfl) rfl (AbS _ v) ⟨fun h=>C2 ?_,fun h=>?_⟩
 ·unfold Es
  have:(decide (v.Slot<0)||(decide (1073741824<v.Slot)||decide (4<v.Dims.length)))=true:=by simp at h ⊢;omega
  rw[this,Ak4]
 ·have hb:0<=v.Slot/\v.Slot<=1073741824/\v.Dims.length<=4:=by simp at h;omega
  have e:Es v=Fu (v.Slot+1) v.Dims:=by
   unfold Es
   have:(decide (v.Slot<0)||(decide (1073741824<v.Slot)||decide (4<v.Dims.length)))=false:=by simp;omega
   rw[this,Ak0]
  rw[e,Bt (by omega) (by omega)]
  refine Bh Al Am (fun g st=>∃ (k:Nat) (n:Int),k<=v.Dims.length/\g=v.Dims.length - k/\0<=n/\n<=1073741825+k*1152921504606846976/\Fu n (v.Dims.drop k)=Fu (v.Slot+1) v.Dims/\st=Ow n v k) (by kernel_rfl) (by kernel_rfl)
   ⟨_,Up.of ⟨0,v.Slot+1,Alc _,rfl,by omega,by omega,rfl,rfl⟩⟩ ?_
  rintro g st ⟨k,n,hk,rfl,hn0,hn1,hr,rfl⟩
  refine Alu (Xw _ n v k _) ⟨fun hlt=>?_,fun hge=>C2 ?_⟩
  ·have hlt':k<v.Dims.length:=by have:=AV hlt;omega
   have hto:(k:Int).toNat=k:=by omega
   rw[hto]
   have hdr:v.Dims.drop k=v.Dims.getD k default::v.Dims.drop (k+1):=by
    rw[Al5 hlt'];simp[List.getD,hlt']
   have hw:=hd.2 _ (Av (d:=default) hlt')
   generalize v.Dims.getD k default=d at hdr hw ⊢
   have hwl:=AjK hw.Len
   rw[hdr]at hr
   refine⟨⟨by omega,by omega⟩,fun hy=>C2 ?_,fun hy=>?_⟩
   ·rw[← hr]
    have:Lw d=true:=by
     unfold Lw
     by_cases hl:d.Len<1
     ·simp[hl]
     ·rw[Bt (by omega) (by omega)]at hy
      simp at hy ⊢;omega
    show _=Fu n (d::_)
    unfold Fu;rw[this]<;>rfl
   ·have hl:1<=d.Len:=by
     by_cases hl:d.Len<1
     ·simp[hl]at hy
     ·omega
    have hwr:IntKind.i64.wrap (d.Len - 1)=d.Len - 1:=Bt (by omega) (by omega)
    rw[hwr]at hy ⊢
    have hb2:d.Len - 1<=1073741824/\0<=d.Stride/\d.Stride<=1073741824:=by simp at hy;omega
    have hbad:Lw d=false:=by unfold Lw;simp;omega
    have hm1:0<=(d.Len - 1)*d.Stride:=Int.mul_nonneg (by omega) hb2.2.1
    have hm2:(d.Len - 1)*d.Stride<=1073741824*1073741824:=Int.mul_le_mul hb2.1 hb2.2.2 hb2.2.1 (by omega)
    rw[Bt (n:=(d.Len - 1)*d.Stride) (by omega) (by omega),Bt (n:=n+_) (by omega) (by omega),An (by omega)]
    refine⟨v.Dims.length - (k+1),by omega,Up.of ⟨k+1,n+(d.Len - 1)*d.Stride,by omega,rfl,by omega,by omega,?_,rfl⟩⟩
    rw[← hr]
    show _=Fu n (d::_)
    conv=>rhs;unfold Fu
    rw[hbad]<;>rfl
  ·have hge':v.Dims.length<=k:=by have:=A0 hge;omega
   rw[Amp hge']at hr
   rw[← hr]<;>rfl
theorem Pk {t:List D.Type}{init:List Int}(hl:t.length<=init.length)(hs:t.length<=1048576):Ai Tryz.prog 69 [] [AJ true t,Ad true init] [] (Aa (Fm t init)):=by
 refine Ah Al Am Tryz.func69 (by kernel_rfl) rfl (AaS _ t init) ?_
 refine AK Al Am t.length (fun k=>Om t init k) (fun k=>∀ i,i<k->DD (t.getD i default) (init.getD i 0)=true) (by kernel_rfl) (by kernel_rfl) (fun i hi=>by omega) ?_
 intro k hk hI J next
 refine Alu (WM _ t init k J) ⟨fun hlt=>?_,fun hge=>C2 ?_⟩
 ·have hlt':k<t.length:=by have:=AV hlt;omega
  refine⟨⟨by omega,by omega⟩,⟨by omega,by omega⟩,DD (t.getD k default) (init.getD k 0),Nj _ _,fun hy=>C2 ?_,fun hy=>next _ hlt' (fun i hi=>?_) (Up.of ?_)⟩
  ·exact(Io (f:=fun i=>DD (t.getD i default) (init.getD i 0)) hI hlt' (by simpa using hy)).symm
  ·rcases AlD.1 hi with h | rfl
   ·exact hI i h
   ·simpa using hy
  ·rw[An (by omega)]<;>rfl
 ·have hge':t.length<=k:=by have:=A0 hge;omega
  exact(Ip (f:=fun i=>DD (t.getD i default) (init.getD i 0)) fun i hi=>hI i (by omega)).symm
theorem Xg {s:D.Shape}(hs:O5 s):Ai Tryz.prog 70 [] [.agg (FC s)] [] (Ac (D5 s)):=by
 have hl:=hs.Fields.1
 refine Ah Al Am Tryz.func70 (by kernel_rfl) rfl (Abq _ s) ⟨fun h=>AG ?_,fun h=>?_⟩
 ·symm;rw[AlZ];intro hc;simp[D5]at hc h;omega
 ·have e:D5 s=Ed s.Fields.length fun i=>Hx (s.Fields.getD i default):=by
   unfold D5
   have:(decide (0<=s.Room)&&decide (s.Room<=16)&&decide (1<=s.Fields.length)&&decide (s.Fields.length<=8))=true:=by simp at h ⊢;omega
   rw[this,AlV]
  rw[e]
  refine AK Al Am s.Fields.length (fun k=>Oq s k) (fun k=>∀ i,i<k->Hx (s.Fields.getD i default)=true) (by kernel_rfl) (by kernel_rfl) (fun i hi=>by omega) ?_
  intro k hk hI J next
  refine Alu (Xh _ s k J) ⟨fun hlt=>?_,fun hge=>AG ?_⟩
  ·have hlt':k<s.Fields.length:=by have:=AV hlt;omega
   refine⟨⟨by omega,by omega⟩,Hx (s.Fields.getD k default),Ug _,fun hy=>AG ?_,fun hy=>next _ hlt' (fun i hi=>?_) (Up.of ?_)⟩
   ·exact(De (f:=fun i=>Hx (s.Fields.getD i default)) hlt' (by simpa using hy)).symm
   ·rcases AlD.1 hi with h | rfl
    ·exact hI i h
    ·simpa using hy
   ·rw[An (by omega)]<;>rfl
  ·have hge':s.Fields.length<=k:=by have:=A0 hge;omega
   exact(Bz.2 fun i hi=>hI i (by omega)).symm
theorem JA (m:D.Model)(n:Int):Ai Tryz.prog 114 [] [tpM m,Aa n] [] (Ac (DY m n)):=by
 refine Ah Al Am Tryz.func114 (by kernel_rfl) rfl (XD _ m n) (AG ?_)
 rw[Alq];simp[DY]
theorem VW {a:Int}{l:List Int}(hl:l.length<=1099511627776):Ai Tryz.prog 110 [] [Aa a,Ad false l] [] (Ac (C7 a l)):=by
 refine Ah Al Am Tryz.func110 (by kernel_rfl) rfl (Adh _ a l) ?_
 refine AK Al Am l.length (fun k=>OB a l k) (fun k=>∀ i,i<k->inP a (l.getD i 0)=true) (by kernel_rfl) (by kernel_rfl) (fun i hi=>by omega) ?_
 intro k hk hI J next
 refine Alu (YH _ a l k J) ⟨fun hlt=>?_,fun hge=>AG ?_⟩
 ·have hlt':k<l.length:=by have:=AV hlt;omega
  have hto:(k:Int).toNat=k:=by omega
  rw[hto]
  refine⟨⟨by omega,by omega⟩,fun hy=>AG ?_,fun hy=>next _ hlt' (fun i hi=>?_) (Up.of ?_)⟩
  ·exact(De (f:=fun i=>inP a (l.getD i 0)) hlt' (by rw[AlZ];intro hc;simp[inP]at hc hy;omega)).symm
  ·rcases AlD.1 hi with h | rfl
   ·exact hI i h
   ·simp[inP]at hy ⊢;omega
  ·rw[An (by omega)]<;>rfl
 ·have hge':l.length<=k:=by have:=A0 hge;omega
  exact(Bz.2 fun i hi=>hI i (by omega)).symm
theorem FF {a:Int}{l:List Int}(hl:l.length<=1099511627776):Ai Tryz.prog 110 [] [Aa a,Ad true l] [] (Ac (C7 a l)):=by
 refine Ah Al Am Tryz.func110 (by kernel_rfl) rfl (YG _ a l) ?_
 refine AK Al Am l.length (fun k=>L8 a l k) (fun k=>∀ i,i<k->inP a (l.getD i 0)=true) (by kernel_rfl) (by kernel_rfl) (fun i hi=>by omega) ?_
 intro k hk hI J next
 refine Alu (VU _ a l k J) ⟨fun hlt=>?_,fun hge=>AG ?_⟩
 ·have hlt':k<l.length:=by have:=AV hlt;omega
  have hto:(k:Int).toNat=k:=by omega
  rw[hto]
  refine⟨⟨by omega,by omega⟩,fun hy=>AG ?_,fun hy=>next _ hlt' (fun i hi=>?_) (Up.of ?_)⟩
  ·exact(De (f:=fun i=>inP a (l.getD i 0)) hlt' (by rw[AlZ];intro hc;simp[inP]at hc hy;omega)).symm
  ·rcases AlD.1 hi with h | rfl
   ·exact hI i h
   ·simp[inP]at hy ⊢;omega
  ·rw[An (by omega)]<;>rfl
 ·have hge':l.length<=k:=by have:=A0 hge;omega
  exact(Bz.2 fun i hi=>hI i (by omega)).symm
theorem Nq {a x:Int}:Ai Tryz.prog 110 [] [Aa a,.sl false 1 1 fun i=>List.take 1 (List.drop (i*1) [.sc (.int .i64 x)])] [] (Ac (inP a x)):=by
 have h:=VW (a:=a) (l:=[x]) (by simp)
 have e:C7 a [x]=inP a x:=by simp[C7,Ed,List.getD]
 rw[e]at h
 refine h.le trivial ⟨VV.le_refl _,AmE (.inl rfl) fun i hi=>AQ ?_,trivial⟩ trivial (VV.le_refl _)
 obtain rfl:i=0:=by omega
 rfl
theorem bt {b:Bool}{p:Prop}(h:b=true)(k:b=false):p:=by rw[h]at k;cases k
theorem LB {a x:Int}:Ai Tryz.prog 110 [] [Aa a,.sl true 1 1 fun i=>List.take 1 (List.drop (i*1) [.sc (.int .i64 x)])] [] (Ac (inP a x)):=by
 have h:=FF (a:=a) (l:=[x]) (by simp)
 have e:C7 a [x]=inP a x:=by simp[C7,Ed,List.getD]
 rw[e]at h
 refine h.le trivial ⟨VV.le_refl _,AmE (.inl rfl) fun i hi=>AQ ?_,trivial⟩ trivial (VV.le_refl _)
 obtain rfl:i=0:=by omega
 rfl
theorem EA (op:Int):Ai Tryz.prog 109 [] [Aa op] [] (Aa (Bf op)):=by
 refine Ah Al Am Tryz.func109 (by kernel_rfl) rfl (Ab5 _ op) ?_
 have k0:∀ {p:Prop},(op=1∨op=2∨op=31∨op=32∨op=33∨op=34∨op=35∨op=39)->leO [] []/\VV.le (.sc (.int .i64 0)) (.sc (.int .i64 (Bf op:Nat))):=fun h=>C2 (by unfold Bf;rw[Alw h]<;>rfl)
 have kx:¬(op=1∨op=2∨op=31∨op=32∨op=33∨op=34∨op=35∨op=39)->((op==(24:Int))=true->leO [] []/\(VV.sc (.int .i64 3)).le (.sc (.int .i64 (Bf op:Nat))))/\((op==(24:Int))=false ->
   ((bif decide (op>=(6:Int)) then decide (op<=(23:Int)) else false)=true->leO [] []/\(VV.sc (.int .i64 2)).le (.sc (.int .i64 (Bf op:Nat))))/\((bif decide (op>=(6:Int)) then decide (op<=(23:Int)) else false)=false->leO [] []/\(VV.sc (.int .i64 1)).le (.sc (.int .i64 (Bf op:Nat))))):=by
  intro hn
  refine⟨fun h=>C2 ?_,fun h=>⟨fun h2=>C2 ?_,fun h2=>C2 ?_⟩⟩
  ·unfold Bf;rw[Alg hn,Alw (by simpa using h)]<;>rfl
  ·unfold Bf;rw[Alg hn,Alg (by simpa using h),Alw (by simp at h2;omega)];rfl
  ·unfold Bf;rw[Alg hn,Alg (by simpa using h),Alg (by simp at h2;omega)];rfl
 refine⟨fun h1=>⟨fun _=>k0 (p:=True) (by simp at h1;omega),fun h=>bt h1 h⟩,fun h1=>⟨fun h2=>⟨fun _=>k0 (p:=True) (by simp at h2;omega),fun h=>bt h2 h⟩,fun h2=>⟨fun h3=>⟨fun _=>k0 (p:=True) (by simp at h3;omega),fun h=>bt h3 h⟩,fun h3=>⟨fun h4=>⟨fun _=>k0 (p:=True) (by simp at h4;omega),fun h=>bt h4 h⟩,fun h4=>⟨fun h5=>⟨fun _=>k0 (p:=True) (by simp at h5;omega),fun h=>bt h5 h⟩,fun h5 =>
  ⟨fun h6=>⟨fun _=>k0 (p:=True) (by simp at h6;omega),fun h=>bt h6 h⟩,fun h6=>⟨fun h7=>⟨fun _=>k0 (p:=True) (by simp at h7;omega),fun h=>bt h7 h⟩,fun h7=>⟨fun h8=>k0 (p:=True) (by simp at h8;omega),fun h8=>kx (by simp at h1 h2 h3 h4 h5 h6 h7 h8;omega)⟩⟩⟩⟩⟩⟩⟩⟩
theorem AaN {m:D.Model}{a:Int}{v:D.Var}(hv:K5 v):Ai Tryz.prog 111 [] [tpM m,Aa a,.agg (Cq v)] [] (Ac (EH m a v)):=by
 have hl:=hv.Dims.1
 refine Ah Al Am Tryz.func111 (by kernel_rfl) rfl (AdP _ m a v) ?_
 have hloop:∀ b:Bool,b=Ed v.Dims.length (fun i=>Nn a (v.Dims.getD i default))->AA (CR Tryz.prog tb Bj JY true Tryz.f111 [] (Ac b)) [1,1,1,0,1,0] (MU a v 0):=by
  rintro b rfl
  refine AK Al Am v.Dims.length (fun k=>MU a v k) (fun k=>∀ i,i<k->Nn a (v.Dims.getD i default)=true) (by kernel_rfl) (by kernel_rfl) (fun i hi=>by omega) ?_
  intro k hk hI J next
  refine Alu (AaO _ a v k J) ⟨fun hlt=>?_,fun hge=>AG ?_⟩
  ·have hlt':k<v.Dims.length:=by have:=AV hlt;omega
   have hto:(k:Int).toNat=k:=by omega
   rw[hto]
   have hdim:∀ d:D.Dim,Nn a d=!(bif bif bif bif !(inP a d.I) then true else decide (d.Len<1) then true else decide (d.Len > 128) then true else decide (d.Stride<0) then true else decide (d.Stride > 128)):=by
    intro d
    unfold Nn
    cases inP a d.I
    ·rfl
    ·rw[Alq];simp<;>omega
   refine⟨⟨by omega,by omega⟩,inP a (v.Dims.getD k default).I,Nq,fun hy=>AG ?_,fun hy=>next _ hlt' (fun i hi=>?_) (Up.of ?_)⟩
   ·exact(De (f:=fun i=>Nn a (v.Dims.getD i default)) hlt' (by show Nn a _=false;rw[hdim,hy]<;>rfl)).symm
   ·rcases AlD.1 hi with h | rfl
    ·exact hI i h
    ·show Nn a _=true;rw[hdim,hy]<;>rfl
   ·rw[An (by omega)]<;>rfl
  ·have hge':v.Dims.length<=k:=by have:=A0 hge;omega
   exact(Bz.2 fun i hi=>hI i (by omega)).symm
 unfold EH
 generalize Ed v.Dims.length (fun i=>Nn a (v.Dims.getD i default))=al at hloop ⊢
 refine⟨fun h=>AG ?_,fun h=>⟨fun h2=>?_,fun h2=>?_⟩⟩
 ·symm;rw[AlZ];intro hc;simp at h hc;omega
 all_goals
  have e:(decide (0<=v.Scope)&&decide (v.Scope<=2)&&decide (0<=v.Slot)&&decide (v.Slot<=128)&&decide (v.Dims.length<=4))=true:=by simp at h ⊢;omega
  rw[e,AlV]
 ·have e2:decide (v.Scope=2)=true:=by simpa using h2
  rw[e2,Ak4]
  refine⟨inP a v.Who,Nq,DY m v.Type_,fun _=>JA _ _,fun hy=>AG ?_,fun hy=>hloop _ ?_⟩
  ·cases h3:inP a v.Who<;>cases h4:DY m v.Type_<;>rw[h3,h4]at hy<;>first | rfl | cases hy
  ·cases h3:inP a v.Who<;>cases h4:DY m v.Type_<;>rw[h3,h4]at hy<;>first | (simp;done) | cases hy
 ·have e2:decide (v.Scope=2)=false:=by simpa using h2
  rw[e2,Ak0]
  refine⟨fun hy=>AG ?_,fun hy=>hloop _ ?_⟩
  ·symm;rw[AlZ];intro hc;simp at hy hc;omega
  ·have:(decide (v.Who=-1)&&decide (v.Type_=-1))=true:=by simp at hy ⊢;omega
   rw[this,AlV]
theorem Ms {m:D.Model}{a:Int}{args mt:List Int}(ha:a<=m.Exprs.length)(h1:args.length<=1048576)(h2:mt.length<=1048576) :
  Ai Tryz.prog 112 [] [tpM m,Aa a,Ad true args,Ad true mt] [] (Ac (Cu m a args mt)):=by
 refine Ah Al Am Tryz.func112 (by kernel_rfl) rfl (U6 _ m a args mt) ⟨C7 a args,fun _=>FF (by omega),fun h=>AG ?_,fun h=>?_⟩
 ·unfold Cu
  symm;rw[AlZ];intro hc
  simp at hc h
  obtain⟨⟨⟨⟨c1,c2⟩,c3⟩,c4⟩,_⟩:=hc
  rw[c4]at h
  simp at h
  omega
 ·have hb:C7 a args=true:=by
   cases hq:C7 a args with
   | true=>rfl
   | false=>rw[hq]at h;simp at h
  have hlen:1<=args.length/\args.length<=8/\mt.length=args.length:=by rw[hb]at h;simp at h;omega
  have e:Cu m a args mt=Ed mt.length fun i=>Ll m (args.getD i 0) (mt.getD i 0):=by
   unfold Cu
   rw[hb];simp[hlen]
  rw[e]
  have hin:=FH.1 hb
  refine AK Al Am mt.length (fun k=>Kh m args mt k) (fun k=>∀ i,i<k->Ll m (args.getD i 0) (mt.getD i 0)=true) (by kernel_rfl) (by kernel_rfl) (fun i hi=>by omega) ?_
  intro k hk hI J next
  refine Alu (Te _ m args mt k J) ⟨fun hlt=>?_,fun hge=>AG ?_⟩
  ·have hlt':k<mt.length:=by have:=AV hlt;omega
   have hto:(k:Int).toNat=k:=by omega
   rw[hto]
   have hx:=hin _ (Av (d:=(0:Int)) (show k<args.length by omega))
   have hm:Ll m (args.getD k 0) (mt.getD k 0)=!(bif bif decide (mt.getD k 0 < -1) then true else decide (mt.getD k 0 > 1) then true else bif mt.getD k 0==0 then(m.Exprs.getD (args.getD k 0).toNat default).Op != 2 else false):=by
    unfold Ll Aw
    rw[Alq];simp<;>omega
   refine⟨⟨by omega,by omega⟩,fun _=>⟨by omega,by omega⟩,fun _=>⟨by omega,by omega⟩,fun hy=>AG ?_,fun hy=>next _ hlt' (fun i hi=>?_) (Up.of ?_)⟩
   ·exact(De (f:=fun i=>Ll m (args.getD i 0) (mt.getD i 0)) hlt' (by show Ll m _ _=false;rw[hm,hy]<;>rfl)).symm
   ·rcases AlD.1 hi with h | rfl
    ·exact hI i h
    ·rw[hm,hy]<;>rfl
   ·rw[An (by omega)]<;>rfl
  ·have hge':mt.length<=k:=by have:=A0 hge;omega
   exact(Bz.2 fun i hi=>hI i (by omega)).symm
theorem UR {m:D.Model}{x:D.Expr}(h1:x.Args.length<=1048576):Ai Tryz.prog 113 [] [tpM m,.agg (AS x)] [] (Ac (OG m x)):=by
 refine Ah Al Am Tryz.func113 (by kernel_rfl) rfl (XH _ m x) ⟨DY m x.N,fun _=>JA _ _,fun h=>AG ?_,fun h=>?_⟩
 ·unfold OG
  symm;rw[AlZ];intro hc
  simp at hc h
  obtain⟨⟨⟨⟨c1,c2⟩,c3⟩,c4⟩,_⟩:=hc
  rw[c3]at h
  simp at h
  omega
 ·have hb:DY m x.N=true:=by
   cases hq:DY m x.N with
   | true=>rfl
   | false=>rw[hq]at h;simp at h
  have hp:0<=x.N/\x.N<m.Procs.length:=by unfold DY at hb;simp at hb;omega
  have hlen:0<=x.N/\x.N<1073741824/\1<=x.Args.length:=by rw[hb]at h;simp at h;omega
  refine⟨⟨by omega,by omega⟩,C7 (IM m x.N).length x.Args,FF (by omega),AG ?_⟩
  unfold OG
  rw[hb];simp[hlen]
theorem Ie {a op:Int}{i:Nat}{p:Int}:FU a op i p=!(bif bif decide ((i:Int)<(Bf op:Nat)) then !(inP a p) else false then true else bif decide ((i:Int)>=(Bf op:Nat)) then p != -1 else false):=by
 unfold FU
 by_cases h:i<Bf op
 ·have h1:decide (i<Bf op)=true:=by simpa using h
  have h2:decide ((i:Int)<(Bf op:Nat))=true:=by simp;omega
  have h3:decide ((i:Int)>=(Bf op:Nat))=false:=by simp;omega
  rw[h1,h2,h3];simp
 ·have h1:decide (i<Bf op)=false:=by simpa using h
  have h2:decide ((i:Int)<(Bf op:Nat))=false:=by simp;omega
  have h3:decide ((i:Int)>=(Bf op:Nat))=true:=by simp;omega
  rw[h1,h2,h3,Alq];simp
theorem AcW {m:D.Model}{a:Int}(h0:0<=a)(ha:a<m.Exprs.length)(hw:Oi (Aw m a)):Ai Tryz.prog 71 [] [tpM m,Aa a] [] (Ac (EN m a)):=by
 refine Ah Al Am Tryz.func71 (by kernel_rfl) rfl (AfA _ m a) ⟨⟨h0,ha⟩,fun h=>AG ?_,fun h=>?_⟩
 ·symm;rw[AlZ];intro hc
  unfold EN at hc
  simp only[Ak2,Ak5]at hc
  have h':(bif decide ((Aw m a).Op<1) then true else decide ((Aw m a).Op > 39))=true:=h
  simp at h'
  omega
 ·have hop:1<=(Aw m a).Op/\(Aw m a).Op<=39:=by
   have h':(bif decide ((Aw m a).Op<1) then true else decide ((Aw m a).Op > 39))=false:=h
   simp at h';omega
  have hargs:=hw.Args.1
  have hmt:=hw.Match.1
  have hwv:=hw.V
  generalize hb:EN m a=b
  unfold EN at hb
  simp only at hb
  show AA _ _ (Fq m a (Aw m a) 0)
  generalize Aw m a=x at hop hargs hmt hwv hb ⊢
  have e:(decide (1<=x.Op)&&decide (x.Op<=39))=true:=by simp;omega
  rw[e,AlV]at hb
  refine Bh Al Am (fun g st=>(g=3/\st=Fq m a x 0)∨(g=2/\FU a x.Op 0 x.A=true/\st=Fq m a x 1)∨(g=1/\FU a x.Op 0 x.A=true/\FU a x.Op 1 x.B=true/\st=Fq m a x 2)∨(g=0/\FU a x.Op 0 x.A=true/\FU a x.Op 1 x.B=true/\FU a x.Op 2 x.C=true/\st=Fq m a x 3))
   (by kernel_rfl) (by kernel_rfl) ⟨3,Up.of (.inl ⟨rfl,rfl⟩)⟩ ?_
  rintro g st (⟨rfl,rfl⟩ | ⟨rfl,p0,rfl⟩ | ⟨rfl,p0,p1,rfl⟩ | ⟨rfl,p0,p1,p2,rfl⟩)
  ·refine Alu (Vz _ m a x _) ⟨fun _=>⟨⟨by omega,by omega⟩,_,EA _,_,fun _=>LB,_,fun _=>EA _,fun hy=>AG ?_,fun hy=>⟨2,by omega,Up.of (.inr (.inl ⟨rfl,?_,?_⟩))⟩⟩,fun h=>by cases h⟩
   ·have hp:FU a x.Op 0 x.A=false:=by rw[Ie];exact congrArg (!·) hy
    rw[← hb,hp]<;>rfl
   ·rw[Ie];exact congrArg (!·) hy
   ·rw[Bt (by omega) (by omega)]<;>rfl
  ·refine Alu (Vy _ m a x _) ⟨fun _=>⟨⟨by omega,by omega⟩,_,EA _,_,fun _=>LB,_,fun _=>EA _,fun hy=>AG ?_,fun hy=>⟨1,by omega,Up.of (.inr (.inr (.inl ⟨rfl,p0,?_,?_⟩)))⟩⟩,fun h=>by cases h⟩
   ·have hp:FU a x.Op 1 x.B=false:=by rw[Ie];exact congrArg (!·) hy
    rw[← hb,p0,hp]<;>rfl
   ·rw[Ie];exact congrArg (!·) hy
   ·rw[Bt (by omega) (by omega)]<;>rfl
  ·refine Alu (Vx _ m a x _) ⟨fun _=>⟨⟨by omega,by omega⟩,_,EA _,_,fun _=>LB,_,fun _=>EA _,fun hy=>AG ?_,fun hy=>⟨0,by omega,Up.of (.inr (.inr (.inr ⟨rfl,p0,p1,?_,?_⟩)))⟩⟩,fun h=>by cases h⟩
   ·have hp:FU a x.Op 2 x.C=false:=by rw[Ie];exact congrArg (!·) hy
    rw[← hb,p0,p1,hp]<;>rfl
   ·rw[Ie];exact congrArg (!·) hy
   ·rw[Bt (by omega) (by omega)]<;>rfl
  ·rw[p0,p1,p2]at hb
   simp only[Bool.and_self,AlV]at hb
   subst hb
   refine Alu (Vw _ m a x _) ⟨fun h=>(by cases h),fun _=>⟨fun h1=>⟨_,Nj ⟨32,true⟩ _,AG ?_⟩,fun h1=>⟨fun h2=>⟨_,AaN hwv,AG ?_⟩,fun h2=>⟨fun h3=>⟨_,Ms (by omega) hargs hmt,AG ?_⟩,fun h3=>⟨fun h4=>⟨_,UR hargs,AG ?_⟩,fun h4 =>
    ⟨fun h5=>⟨DY m x.N,fun _=>JA _ _,fun hy=>?_,C7 a x.Args,fun _=>FF (by omega),AG ?_⟩,fun h5=>AG ?_⟩⟩⟩⟩⟩⟩
   ·rw[Alw (by simpa using h1)]
   ·rw[Alg (by simpa using h1),Alw (by simpa using h2)]
   ·rw[Alg (by simpa using h1),Alg (by simpa using h2),Alw (by simpa using h3)]
    cases Cu m a x.Args x.Match
    ·rfl
    ·rw[Alq];simp
   ·rw[Alg (by simpa using h1),Alg (by simpa using h2),Alg (by simpa using h3),Alw (by simpa using h4)]
   ·have hb:DY m x.N=true:=by
     cases hq:DY m x.N with
     | true=>rfl
     | false=>rw[hq]at hy;simp at hy
    unfold DY at hb;simp at hb;omega
   ·rw[Alg (by simpa using h1),Alg (by simpa using h2),Alg (by simpa using h3),Alg (by simpa using h4),Alw (by simpa using h5)]
    cases DY m x.N<;>cases C7 a x.Args<;>first | (simp;done) | (rw[Alq];simp)
   ·rw[Alg (by simpa using h1),Alg (by simpa using h2),Alg (by simpa using h3),Alg (by simpa using h4),Alg (by simpa using h5)]
theorem B8 {α:Type}{l:List α}{k:Nat}{d:α}(h:k<l.length):l.drop k=l.getD k d::l.drop (k+1):=by
 rw[Al5 h];simp[List.getD,h]
theorem H7 {α:Type}{l:List α}{k:Nat}{d:α}(h:k<l.length):l.take (k+1)=l.take k++[l.getD k d]:=by
 rw[AmZ,Ald h];simp[List.getD,h]
theorem E5 {α:Type}{i n:Nat}{a b:α}(h:i<n):(bif Nat.blt i n then a else b)=a:=by
 have hb:Nat.blt i n=true:=Nat.ble_eq_true_of_le h
 rw[hb,Ak4]
theorem Gx {α:Type}{i n:Nat}{a b:α}(h:n<=i):(bif Nat.blt i n then a else b)=b:=by
 have hb:Nat.blt i n=false:=by
  cases hq:Nat.blt i n with
  | true=>have:=Alm hq;omega
  | false=>rfl
 rw[hb,Ak0]
theorem B6 {α:Type}{f:α->List VV}{d:α}{l r:List α}{F G:Nat->List VV}(h1:∀ i,i<l.length->F i=f (l.getD i d))(h2:∀ i,i<r.length->G i=f (r.getD i d)){i:Nat}(hi:i<(l++r).length) :
  (bif i.blt l.length then F i else G (i - l.length))=f ((l++r).getD i d):=by
 by_cases hl:i<l.length
 ·rw[E5 hl,h1 i hl]
  simp only[Alf,Ale hl]
 ·rw[Gx (by omega),h2 _ (by simp at hi;omega)]
  simp only[Alf,All (by omega:l.length<=i)]
theorem Hk {x:Int}:∀ i,i<[x].length->(fun i=>List.take 1 (List.drop (i*1) [VV.sc (.int .i64 x)])) i=(fun n=>[Aa n]) ([x].getD i 0):=by
 intro i hi
 obtain rfl:i=0:=by simpa using hi
 rfl
theorem AbC {c:Ctx}{rel:List Nat}{l:List (Nat × VV)}{g n sz:Nat}{F G:Nat->List VV}(h:∀ i,i<n->F i=G i)(k:AA c rel (Aq l [.arr true g n sz G])):AA c rel (Aq l [.arr true g n sz F]) :=
 AA.le (hs:=[.arr true g n sz F]) (hs':=[.arr true g n sz G]) (AO _) ⟨AlM fun i hi=>AQ (h i hi),trivial⟩ k
theorem Rc {l:D.Loc}(h1:l.Esc.length<=1048576):Ai Tryz.prog 73 [] [.agg (AY l)] [] (BT true (DL l)):=by
 refine Ah Al Am Tryz.func73 (by kernel_rfl) rfl (AdG _ l) ⟨by omega,fun i hi=>rfl,trivial,?_⟩
 have e:1+l.Esc.length=(DL l).length:=by simp[DL];omega
 rw[e]
 refine AmE (.inl rfl) fun i hi=>AQ ?_
 refine B6 (l:=[l.Out]) (r:=l.Esc) (f:=fun w=>[As true w]) (d:=[]) (F:=fun i=>List.take 1 (List.drop (i*1) [As true l.Out])) (G:=fun i=>[As true (l.Esc.getD i [])]) (fun i hi=>?_) (fun i hi=>rfl) hi
 obtain rfl:i=0:=by simpa using hi
 rfl
theorem Yi {p:D.Proc}(hp:Ka p):Ai Tryz.prog 50 [] [.agg (Bc p)] [] (Ac (Di p)):=by
 have h1:=hp.Frame.1
 refine Ah Al Am Tryz.func50 (by kernel_rfl) rfl (AcN _ p) ⟨Fm p.Frame p.Init,fun h=>Pk ?_ h1,AG ?_⟩
 ·simp at h;omega
 ·rw[Alq];simp[Di];omega
theorem Tw {p:D.Proc}(hp:Ka p):Ai Tryz.prog 52 [] [.agg (Bc p)] [] (Ac (E6 p)):=by
 have h1:=hp.Locs.1
 refine Ah Al Am Tryz.func52 (by kernel_rfl) rfl (VM _ p) ⟨fun h=>AG ?_,fun h=>?_⟩
 ·symm;rw[AlZ];intro hc;simp[E6,-List.length_eq_zero_iff]at hc h;omega
 ·have e:E6 p=Ed p.Locs.length fun i=>GQ (p.Locs.getD i default):=by
   unfold E6
   have:(decide (p.Frame.length=0)&&decide (p.Params<=0)&&decide (p.Active<=0)&&decide (p.Provided=-1))=true:=by simp at h ⊢;omega
   rw[this,AlV]
  rw[e]
  refine AK Al Am p.Locs.length (fun k=>Kj p k) (fun k=>∀ i,i<k->GQ (p.Locs.getD i default)=true) (by kernel_rfl) (by kernel_rfl) (fun i hi=>by omega) ?_
  intro k hk hI J next
  refine Alu (Tx _ p k J) ⟨fun hlt=>?_,fun hge=>AG ?_⟩
  ·have hlt':k<p.Locs.length:=by have:=AV hlt;omega
   have hto:(k:Int).toNat=k:=by omega
   rw[hto]
   have hpl:∀ l:D.Loc,GQ l=!(bif bif decide ((l.Esc.length:Int) > 0) then true else l.Atomic then true else l.Dstep):=by
    intro l
    unfold GQ
    cases l.Atomic<;>cases l.Dstep<;>rw[Alq]<;>simp
   refine⟨⟨by omega,by omega⟩,fun hy=>AG ?_,fun hy=>next _ hlt' (fun i hi=>?_) (Up.of ?_)⟩
   ·exact(De (f:=fun i=>GQ (p.Locs.getD i default)) hlt' (by show GQ _=false;rw[hpl,hy]<;>rfl)).symm
   ·rcases AlD.1 hi with h | rfl
    ·exact hI i h
    ·rw[hpl,hy]<;>rfl
   ·rw[An (by omega)]<;>rfl
  ·have hge':p.Locs.length<=k:=by have:=A0 hge;omega
   exact(Bz.2 fun i hi=>hI i (by omega)).symm
theorem Yc {p:D.Proc}(hp:Ka p):Ai Tryz.prog 51 [] [.agg (Bc p)] [] (Ac (EB p)):=by
 have h1:=hp.Locs.1
 refine Ah Al Am Tryz.func51 (by kernel_rfl) rfl (AcK _ p) ⟨fun h=>AG ?_,fun h=>?_⟩
 ·symm;rw[AlZ];intro hc;simp[EB,inP]at hc h;omega
 ·have e:EB p=JF p.Locs.length p.Final 0 0 p.Locs:=by
   unfold EB
   have:(decide (1<=p.Locs.length)&&decide (p.Locs.length<=256)&&inP p.Locs.length p.Start&&inP p.Locs.length p.Final)=true:=by simp[inP]at h ⊢;omega
   rw[this,AlV]
  rw[e]
  generalize hb:JF p.Locs.length p.Final 0 0 p.Locs=b
  refine Bh Al Am (fun g st=>∃ (k many:Nat),k<=p.Locs.length/\g=p.Locs.length - k/\many<=1024/\JF p.Locs.length p.Final many k (p.Locs.drop k)=b/\st=L5 p many k) (by kernel_rfl) (by kernel_rfl) ⟨_,Up.of ⟨0,0,Alc _,rfl,by omega,hb,rfl⟩⟩ ?_
  rintro g st ⟨k,many,hk,rfl,hm,hr,rfl⟩
  refine Alu (Yf _ p many k _) ⟨fun hlt=>?_,fun hge=>AG ?_⟩
  ·have hlt':k<p.Locs.length:=by have:=AV hlt;omega
   have hto:(k:Int).toNat=k:=by omega
   rw[hto]
   have hwl:=hp.Locs.2 _ (Av (d:=default) hlt')
   rw[B8 (d:=default) hlt']at hr
   generalize p.Locs.getD k default=l at hwl hr ⊢
   have ho:=hwl.Out.1
   have hes:=hwl.Esc.1
   have hbad:Tg p.Final k l=bif bif decide ((l.Esc.length:Int) > 8) then true else bif l.Dstep then l.Atomic else false then true else bif (k:Int)==p.Final then decide (IntKind.i64.wrap ((l.Out.length:Int)+(l.Esc.length:Int)) > 0) else false:=by
    rw[Bt (by omega) (by omega)]
    unfold Tg
    cases l.Dstep<;>cases l.Atomic<;>rw[Alq]<;>simp<;>omega
   rw[← hbad]
   unfold JF at hr
   refine⟨⟨by omega,by omega⟩,fun hy=>AG ?_,fun hy=>?_⟩
   ·rw[hy,Ak4]at hr;exact hr
   ·rw[hy,Ak0]at hr
    refine⟨DL l,Rc hes,?_⟩
    have hwsl:(DL l).length<=1048577:=by simp[DL];omega
    have hwse:∀ w∈DL l,w.length<=1048576:=by
     intro w hw
     rcases AlQ.1 hw with rfl | hw
     ·exact ho
     ·exact(hwl.Esc.2 w hw).1
    generalize DL l=ws at hr hwsl hwse ⊢
    generalize hwo:Iz p.Locs.length many 0 ws=wo at hr
    refine Bh Al Am (fun g st=>∃ (j mn:Nat),j<=ws.length/\g=ws.length - j/\mn<=1024/\Iz p.Locs.length mn j (ws.drop j)=wo/\st=L4 p mn k ws j) (by kernel_rfl) (by kernel_rfl) ⟨_,Up.of ⟨0,many,Alc _,rfl,hm,hwo,rfl⟩⟩ ?_
    rintro g st ⟨j,mn,hj,rfl,hmn,hq,rfl⟩
    refine Alu (Ye _ p mn k ws j _ _) ⟨fun hlt2=>?_,fun hge2=>?_⟩
    ·have hlt2':j<ws.length:=by have:=AV hlt2;omega
     have hto2:(j:Int).toNat=j:=by omega
     rw[hto2]
     have hwle:=hwse _ (Av (d:=[]) hlt2')
     rw[B8 (d:=[]) hlt2']at hq
     generalize ws.getD j []=w at hwle hq ⊢
     unfold Iz at hq
     rw[Bt (n:=(mn:Int)+_) (by omega) (by omega)]
     have e1:(bif decide ((j:Int) > 0) then(w.length:Int)==0 else false)=(decide (0<j)&&decide (w.length=0)):=by
      rw[Alq];simp
     have e2:decide ((mn:Int)+(w.length:Int) > 1024)=decide (1024<mn+w.length):=by
      rw[Alq];simp;omega
     rw[e1,e2]
     refine⟨⟨by omega,by omega⟩,fun hy1=>AG ?_,fun hy1=>⟨fun hy2=>AG ?_,fun hy2=>?_⟩⟩
     ·rw[hy1,Ak4]at hq;rw[← hq]at hr;exact hr
     ·rw[hy1,Ak0,hy2,Ak4]at hq;rw[← hq]at hr;exact hr
     ·rw[hy1,Ak0,hy2,Ak0]at hq
      have hmn2:mn+w.length<=1024:=by simpa using hy2
      rw[show(mn:Int)+(w.length:Int)=((mn+w.length:Nat):Int) by omega]
      refine AK Al Am w.length (fun h=>L3 p (mn+w.length:Nat) k ws j w h) (fun h=>∀ i,i<h->inP p.Locs.length (w.getD i default).To=true) (by kernel_rfl) (by kernel_rfl) (fun i hi=>by omega) ?_
      intro h3 hh3 hI J3 next
      refine Alu (Yd _ p _ k ws j w h3 _ _ J3) ⟨fun hlt3=>?_,fun hge3=>?_⟩
      ·have hlt3':h3<w.length:=by have:=AV hlt3;omega
       have hto3:(h3:Int).toNat=h3:=by omega
       rw[hto3]
       have hin:inP p.Locs.length (w.getD h3 default).To=!(bif decide ((w.getD h3 default).To<0) then true else decide ((w.getD h3 default).To>=(p.Locs.length:Int))):=by
        unfold inP;rw[Alq];simp
       refine⟨⟨by omega,by omega⟩,fun hy=>AG ?_,fun hy=>next _ hlt3' (fun i hi=>?_) (Up.of ?_)⟩
       ·have:=De (n:=w.length) (f:=fun i=>inP p.Locs.length (w.getD i default).To) hlt3' (by show inP _ _=false;rw[hin,hy]<;>rfl)
        rw[this,Ak0]at hq;rw[← hq]at hr;exact hr
       ·rcases AlD.1 hi with h | rfl
        ·exact hI i h
        ·rw[hin,hy]<;>rfl
       ·rw[An (by omega)]<;>rfl
      ·have hge3':w.length<=h3:=by have:=A0 hge3;omega
       have:=(Bz (n:=w.length) (f:=fun i=>inP p.Locs.length (w.getD i default).To)).2 fun i hi=>hI i (by omega)
       rw[this,Ak4]at hq
       rw[An (by omega)]
       exact⟨ws.length - (j+1),by omega,Up.of ⟨j+1,mn+w.length,by omega,rfl,hmn2,hq,rfl⟩⟩
    ·have hge2':ws.length<=j:=by have:=A0 hge2;omega
     rw[Amp hge2']at hq
     unfold Iz at hq
     rw[← hq]at hr
     rw[An (by omega)]
     exact⟨p.Locs.length - (k+1),by omega,Up.of ⟨k+1,mn,by omega,rfl,hmn,hr,rfl⟩⟩
  ·have hge':p.Locs.length<=k:=by have:=A0 hge;omega
   rw[Amp hge']at hr
   exact hr
theorem Pt (t:ByteArray):(t.toList==(⟨#[]⟩:ByteArray).toList)=decide (t.size=0):=by
 rw[ByteArray.toList_eq,ByteArray.toList_eq,Alq,beq_iff_eq,Ak5]
 show t.data.toList=[] ↔ t.data.size=0
 rw[← Al1,List.length_eq_zero_iff]
theorem Yw {s:D.Stmt}{u v x:Bool}(h1:s.Args.length<=1048576)(h2:s.Match.length<=1048576):Ai Tryz.prog 150 [] [.agg (Ap s),Ac u,Ac v,Ac x] [] (Ac (FD s u v x)):=by
 refine Ah Al Am Tryz.func150 (by kernel_rfl) rfl (Ac4 _ s u v x) (AG ?_)
 rw[Bt (by omega) (by omega),Pt]
 unfold FD
 have e1:((s.Args.length:Int)+(s.Match.length:Int)==0)=decide (s.Args.length+s.Match.length=0):=by rw[Alq,beq_iff_eq,Ak5];omega
 have e2:(s.N==0)=decide (s.N=0):=by rw[Alq,beq_iff_eq,Ak5]
 rw[e1,e2]
 generalize decide (s.Args.length+s.Match.length=0)=b1
 generalize decide (s.N=0)=b2
 generalize decide (s.Text.size=0)=b3
 cases u<;>cases v<;>cases x<;>cases b1<;>cases b2<;>cases b3<;>rfl
theorem Fv (m:D.Model)(a:Int):Ai Tryz.prog 149 [] [tpM m,Aa a] [] (Ac (Ez m a)) :=
 Ah Al Am Tryz.func149 (by kernel_rfl) rfl (Ab4 _ m a) ⟨inP m.Exprs.length a,Nq,AG rfl⟩
theorem Jr (m:D.Model)(a:Int):Ai Tryz.prog 151 [] [tpM m,Aa a] [] (Ac (CT m a)):=by
 have hin:∀ y:Bool,y=Ez m a->y=true->0<=a/\a<m.Exprs.length:=fun y hy h=>CC.1 (by rw[hy]at h;exact h)
 refine Ah Al Am Tryz.func151 (by kernel_rfl) rfl (WT _ m a) ⟨Ez m a,Fv m a,fun h=>hin _ rfl (by simpa using h),fun h=>hin _ rfl ?_,AG ?_⟩
 ·cases hq:Ez m a with
  | true=>rfl
  | false=>rw[hq]at h;simp at h
 ·unfold CT Aw
  cases Ez m a
  ·rfl
  ·rw[Alq];simp
theorem WU {m:D.Model}{s:D.Stmt}(h1:s.Args.length<=1048576)(h2:s.Match.length<=1048576):Ai Tryz.prog 152 [] [tpM m,.agg (Ap s)] [] (Ac (IC m s)):=by
 refine Ah Al Am Tryz.func152 (by kernel_rfl) rfl (Aa1 _ m s) ⟨Cu m m.Exprs.length s.Args s.Match,Ms (AmF _) h1 h2,fun h=>AG ?_,fun h=>?_⟩
 ·have h':Cu m m.Exprs.length s.Args s.Match=false:=by simpa using h
  unfold IC;rw[h',Bool.false_and]
 ·have h':Cu m m.Exprs.length s.Args s.Match=true:=by simpa using h
  have hlen:s.Match.length=s.Args.length:=by
   unfold Cu at h'
   simp only[Ak2,Ak5]at h'
   exact h'.1.1.2
  have e:IC m s=Ed s.Match.length fun i=>!decide (s.Match.getD i 0=0)||CT m (s.Args.getD i 0):=by unfold IC;rw[h',AlV]
  rw[e]
  refine AK Al Am s.Match.length (fun k=>Oo m s k) (fun k=>∀ i,i<k->(!decide (s.Match.getD i 0=0)||CT m (s.Args.getD i 0))=true) (by kernel_rfl) (by kernel_rfl) (fun i hi=>by omega) ?_
  intro k hk hI J next
  refine Alu (WV _ m s k J) ⟨fun hlt=>?_,fun hge=>AG ?_⟩
  ·have hlt':k<s.Match.length:=by have:=AV hlt;omega
   have hto:(k:Int).toNat=k:=by omega
   rw[hto]
   have hm:(!decide (s.Match.getD k 0=0)||CT m (s.Args.getD k 0))=!(bif s.Match.getD k 0==0 then !(CT m (s.Args.getD k 0)) else false):=by
    generalize s.Match.getD k 0=z
    cases CT m (s.Args.getD k 0)
    ·rw[Alq];simp
    ·simp
   refine⟨⟨by omega,by omega⟩,fun _=>⟨by omega,by omega⟩,CT m (s.Args.getD k 0),fun _=>Jr _ _,fun hy=>AG ?_,fun hy=>next _ hlt' (fun i hi=>?_) (Up.of ?_)⟩
   ·exact(De (f:=fun i=>!decide (s.Match.getD i 0=0)||CT m (s.Args.getD i 0)) hlt' (by show(!decide (s.Match.getD k 0=0)||CT m (s.Args.getD k 0))=false;rw[hm,hy]<;>rfl)).symm
   ·rcases AlD.1 hi with h | rfl
    ·exact hI i h
    ·rw[hm,hy]<;>rfl
   ·rw[An (by omega)]<;>rfl
  ·have hge':s.Match.length<=k:=by have:=A0 hge;omega
   exact(Bz.2 fun i hi=>hI i (by omega)).symm
theorem PJ {m:D.Model}{i:Int}{v:D.Var}(h1:v.Scope=1->0<=i/\i<m.Procs.length)(h2:v.Scope≠0->v.Scope≠1->0<=v.Type_/\v.Type_<m.Procs.length):Ai Tryz.prog 117 [] [tpM m,Aa i,.agg (Cq v)] [] (Aa (MY m i v)):=by
 refine Ah Al Am Tryz.func117 (by kernel_rfl) rfl (Abj _ m i v) ⟨fun h=>C2 ?_,fun h=>⟨fun k=>⟨h1 (by simpa using k),C2 ?_⟩,fun k=>⟨h2 (by simpa using h) (by simpa using k),C2 ?_⟩⟩⟩
 ·unfold MY;rw[Alw (by simpa using h)]
 ·unfold MY;rw[Alg (by simpa using h),Alw (by simpa using k)]
 ·unfold MY;rw[Alg (by simpa using h),Alg (by simpa using k)]
def leS (x y:VV):Prop:=∀ (w:World) (E:AF) (m:Option Phi) (v:Value),(∀ k,E.br k->E.fz k)->V w E m x v->V w E m y v
theorem Dt (x:VV):leS x x:=fun _ _ _ _ _ h=>h
theorem Qd {n sz:Nat}{f:Nat->List VV}:leS (.sl true n sz f) (.sl false n sz f):=by
 intro w E m v hE h
 obtain⟨a,cap,rfl,h1,h2,h3⟩:=V.sl_inv h
 refine AmK h1 h2 fun hp=>?_
 obtain⟨b,off,rfl,hb,hn,hl,u,hc,hv⟩:=h3 hp
 exact⟨b,off,rfl,hb,fun hbr=>hn (hE b hbr),hl,u,hc,fun i j x hi hx=>(hv i j x hi hx).less (fun _ h=>h) fun _ _=>trivial⟩
theorem Ai.frz {P:Program}{f:FuncId}{hs hs':List Ob}{xs ys:List VV}{r:VV}(h:Ai P f hs xs hs' r)(hl:ys.length=xs.length)(hle:∀ (j:Nat) x y,xs[j]?=some x->ys[j]?=some y->leS y x):Ai P f hs ys hs' r:=by
 refine⟨h.callable,fun w E φ vs hz hH hφ hs0=>h.call w E φ vs hz hH hφ ⟨hs0.1.trans hl,fun j x hx=>?_⟩⟩
 have hj:j<ys.length:=by rw[hl];exact(Ak3.1 hx).1
 exact hle j x _ hx (Ald hj) _ _ _ _ (fun k hk=>hk.imp (hH.sub k) fun h=>h) (hs0.2 j _ (Ald hj))
theorem ieq (a b:Int):(a==b)=decide (a=b):=by rw[Alq,beq_iff_eq,Ak5]
theorem A6 (a b:Bool):(bif a then b else false)=(a&&b):=by cases a<;>rfl
theorem A3 (a b:Bool):(bif a then true else b)=(a||b):=by cases a<;>rfl
theorem nge (n k:Nat):decide ((n:Int)>=k)=decide (k<=n):=by rw[Alq,Ak5,Ak5];omega
theorem nle (n k:Nat):decide ((n:Int)<=k)=decide (n<=k):=by rw[Alq,Ak5,Ak5];omega
theorem ge1 (n:Nat):decide ((n:Int)>=1)=decide (1<=n):=nge n 1
theorem le8 (n:Nat):decide ((n:Int)<=8)=decide (n<=8):=nle n 8
theorem Aku (n:Nat):decide ((n:Int)<=256)=decide (n<=256):=nle n 256
theorem Akq (n:Nat):decide ((n:Int)=0)=decide (n=0):=by rw[Alq,Ak5,Ak5];omega
structure YJ (s:D.Stmt):Prop where
 a:s.Args.length<=1048576
 m:s.Match.length<=1048576
theorem Py {m:D.Model}{s:D.Stmt}(hs:YJ s):Ai Tryz.prog 115 [] [tpM m,.agg (Ap s)] [] (Ac (AL m s)):=by
 have ha:=hs.a
 have hb:=hs.m
 have em:∀ u v x:Bool,Ai Tryz.prog 150 [] [.agg (Ap s),Ac u,Ac v,Ac x] [] (Ac (FD s u v x)):=fun u v x=>Yw ha hb
 have n1:∀ x:Bool,(bif x then s.B==(-1:Int) else false)=(x&&decide (s.B=-1)):=fun x=>by rw[ieq,A6]
 have hkn:∀ {k:Int},(s.Kind==k)=true->s.Kind=k:=fun h=>by simpa using h
 have hkf:∀ {k:Int},(s.Kind==k)=false->s.Kind≠k:=fun h=>by simpa using h
 refine Ah Al Am Tryz.func115 (by kernel_rfl) rfl (QU _ m s) ?_
 have t13:s.Kind=1∨s.Kind=3->AL m s=(Ez m s.A&&decide (s.B=-1)&&FD s true true true):=fun h=>by unfold AL;rw[Alw h]
 have t2:s.Kind=2->AL m s=(CT m s.A&&Ez m s.B&&FD s true true true):=fun h=>by unfold AL;rw[Alg (by omega),Alw h]
 have t4:s.Kind=4->AL m s=(decide (s.A=-1)&&decide (s.B=-1)&&C7 m.Exprs.length s.Args&&decide (s.Match.length=0)&&decide (s.Text.size<=256)&&decide (s.N=0)):=fun h=>by unfold AL;rw[Alg (by omega),Alg (by omega),Alw h]
 have t5:s.Kind=5->AL m s=(Ez m s.A&&decide (s.B=-1)&&decide (1<=s.Args.length)&&decide (s.Args.length<=8)&&C7 m.Exprs.length s.Args&&decide (s.Match.length=0)&&(decide (s.N=0)||decide (s.N=1))&&decide (s.Text.size=0)):=fun h=>by unfold AL;rw[Alg (by omega),Alg (by omega),Alg (by omega),Alw h]
 have t6:s.Kind=6->AL m s=(Ez m s.A&&decide (s.B=-1)&&IC m s&&decide (0<=s.N)&&decide (s.N<=3)&&decide (s.Text.size=0)):=fun h=>by unfold AL;rw[Alg (by omega),Alg (by omega),Alg (by omega),Alg (by omega),Alw h]
 have t7:s.Kind=7∨s.Kind=8->AL m s=(decide (s.A=-1)&&decide (s.B=-1)&&FD s true true true):=fun h=>by unfold AL;rw[Alg (by omega),Alg (by omega),Alg (by omega),Alg (by omega),Alg (by omega),Alw h]
 have t9:s.Kind=9->AL m s=(CT m s.A&&decide (s.B=-1)&&decide (0<=s.N)&&decide (s.N<m.Shapes.length)&&FD s true false true):=fun h=>by unfold AL;rw[Alg (by omega),Alg (by omega),Alg (by omega),Alg (by omega),Alg (by omega),Alg (by omega),Alw h]
 have tx:¬(s.Kind=1∨s.Kind=3)->s.Kind≠2->s.Kind≠4->s.Kind≠5->s.Kind≠6->¬(s.Kind=7∨s.Kind=8)->s.Kind≠9->AL m s=false:=fun h1 h2 h3 h4 h5 h6 h7=>by unfold AL;rw[Alg h1,Alg h2,Alg h3,Alg h4,Alg h5,Alg h6,Alg h7]
 generalize AL m s=b at t13 t2 t4 t5 t6 t7 t9 tx ⊢
 exact⟨fun h1=>⟨fun _=>⟨_,Fv m s.A,_,fun _=>em true true true,AG (by rw[t13 (.inl (hkn h1)),n1,A6])⟩,fun h=>bt h1 h⟩,fun h1=>⟨fun h3=>⟨_,Fv m s.A,_,fun _=>em true true true,AG (by rw[t13 (.inr (hkn h3)),n1,A6])⟩,fun h3=>⟨fun h2=>⟨_,Jr m s.A,_,fun _=>Fv m s.B,_,fun _=>em true true true,AG (by rw[t2 (hkn h2),A6,A6])⟩,fun h2=>⟨fun h4=>⟨_,fun _=>FF (by omega),AG (by rw[t4 (hkn h4)];simp only[ieq,A6,Akq,Aku])⟩,fun h4=>⟨fun h5=>⟨_,Fv m s.A,_,fun _=>FF (by omega),AG (by rw[t5 (hkn h5)];simp only[ieq,A6,A3,Akq,Pt,le8,ge1])⟩,fun h5=>⟨fun h6=>⟨_,Fv m s.A,_,fun _=>WU ha hb,AG (by rw[t6 (hkn h6)];simp only[ieq,A6,Pt,Amu])⟩,fun h6=>⟨fun h7=>⟨fun _=>⟨_,fun _=>em true true true,AG (by rw[t7 (.inl (hkn h7))];simp only[ieq,A6])⟩,fun h=>bt h7 h⟩,fun h7=>⟨fun h8=>⟨_,fun _=>em true true true,AG (by rw[t7 (.inr (hkn h8))];simp only[ieq,A6])⟩,fun h8=>⟨fun h9=>⟨_,Jr m s.A,_,fun _=>em true false true,AG (by rw[t9 (hkn h9)];simp only[ieq,A6,Amu])⟩,fun h9=>AG (tx (fun h=>h.elim (hkf h1) (hkf h3)) (hkf h2) (hkf h4) (hkf h5) (hkf h6) (fun h=>h.elim (hkf h7) (hkf h8)) (hkf h9)).symm⟩⟩⟩⟩⟩⟩⟩⟩⟩
theorem Il {x:D.Expr}(h1:x.Args.length<=1048576)(h2:x.V.Dims.length<=1048576):Ai Tryz.prog 72 [] [.agg (AS x)] [] (Ad true (Ci x)):=by
 have hp3:=UU x.Op
 have hP:([x.A,x.B,x.C].take (Bf x.Op)).length=Bf x.Op:=by simp;omega
 have hrow:∀ i,i<([x.A,x.B,x.C].take (Bf x.Op)).length->List.take 1 (List.drop (i*1) [VV.sc (.int .i64 x.A),.sc (.int .i64 x.B),.sc (.int .i64 x.C)])=[Aa (([x.A,x.B,x.C].take (Bf x.Op)).getD i 0)]:=by
  intro i hi
  rw[hP]at hi
  have:([x.A,x.B,x.C].take (Bf x.Op)).getD i 0=[x.A,x.B,x.C].getD i 0:=by simp only[Alf,Al0,hi,if_true]
  rw[this]
  rcases(show i=0∨i=1∨i=2 by omega) with rfl | rfl | rfl<;>rfl
 have hto:((Bf x.Op:Nat):Int).toNat=Bf x.Op:=by omega
 have loop:∀ (L:List Int),L.length<=2097152->L++x.V.Dims.map D.Dim.I=Ci x->AA (CR Tryz.prog tb Bj Ha true Tryz.f72 [] (Ad true (Ci x))) [1,1,1,0,1,0,1,1,0] (Xb x L 0):=by
  intro L hL hR
  generalize Ci x=R at hR ⊢
  refine AK Al Am x.V.Dims.length (fun k=>Xb x (L++(x.V.Dims.take k).map D.Dim.I) k) (fun _=>True) (by kernel_rfl) (by kernel_rfl) trivial ?_ |> fun h=>by simpa using h
  intro k hk _ J next
  have hlen:(L++(x.V.Dims.take k).map D.Dim.I).length=L.length+k:=by simp;omega
  refine Alu (AcI _ x _ k J) ⟨fun hlt=>?_,fun hge=>⟨trivial,?_⟩⟩
  ·have hlt':k<x.V.Dims.length:=by have:=AV hlt;omega
   have hto:(k:Int).toNat=k:=by omega
   rw[hto]
   refine⟨⟨by omega,by omega⟩,by rw[hlen];omega,next _ hlt' trivial ?_⟩
   have hpush:(x.V.Dims.take (k+1)).map D.Dim.I=(x.V.Dims.take k).map D.Dim.I++[(x.V.Dims.getD k default).I]:=by rw[H7 (d:=default) hlt'];simp
   have e:L++(x.V.Dims.take (k+1)).map D.Dim.I=(L++(x.V.Dims.take k).map D.Dim.I)++[(x.V.Dims.getD k default).I]:=by rw[hpush,AlS]
   rw[e,An (by omega)]
   generalize L++(x.V.Dims.take k).map D.Dim.I=M
   generalize (x.V.Dims.getD k default).I=z
   refine Up.mk (l':=[(3,.ow 0 0 (M++[z]).length),(45,Dc true x.V.Dims),(46,Aa x.V.Dims.length),(47,Aa ((k+1:Nat):Int))]) (hs':=[.arr true 0 (M++[z]).length 1 (AM (M++[z]))]) ?_ ?_ rfl
   ·rw[show M.length+1=(M++[z]).length by simp];exact AO _
   ·rw[show M.length+1=(M++[z]).length by simp]
    exact⟨AlM fun i hi=>AQ (B6 (f:=fun n=>[Aa n]) (d:=0) (l:=M) (r:=[z]) (F:=fun i=>[.sc (.int .i64 (M.getD i 0))]) (fun i hi=>rfl) Hk hi),trivial⟩
  ·have hge':x.V.Dims.length<=k:=by have:=A0 hge;omega
   rw[AmY hge',hR]
   exact VV.le_refl _
 refine Ah Al Am Tryz.func72 (by kernel_rfl) rfl (Afn _ x) ⟨(Bf x.Op:Nat),EA _,?_⟩
 rw[hto]
 have hpp:Bf x.Op=([x.A,x.B,x.C].take (Bf x.Op)).length:=hP.symm
 generalize hLp:[x.A,x.B,x.C].take (Bf x.Op)=P at hrow hpp loop
 have hheld:Ci x=P++((if x.Op=30∨x.Op=39 then x.Args else[])++(if x.Op=2 then(if x.V.Scope=2 then[x.V.Who] else[])++x.V.Dims.map D.Dim.I else[])):=by unfold Ci;rw[hLp]
 generalize Ci x=R at hheld loop ⊢
 rw[hpp]at hp3 ⊢
 refine⟨⟨by omega,by omega⟩,by omega,fun h=>⟨by omega,fun i hi=>rfl,fun k=>?_,fun k=>⟨trivial,?_⟩⟩,fun h=>⟨fun k=>⟨fun q=>⟨by omega,?_⟩,fun q=>?_⟩,fun k=>⟨trivial,?_⟩⟩⟩
 ·simp at h k;omega
 ·have e:R=P++x.Args:=by rw[hheld,Alw (by simpa using h),Alg (by simpa using k)];simp
  subst e
  rw[show P.length+x.Args.length=(P++x.Args).length by simp]
  exact AmE (.inl rfl) fun i hi=>AQ (B6 (f:=fun n=>[Aa n]) (d:=0) (l:=P) (r:=x.Args) (G:=fun j=>[.sc (.int .i64 (x.Args.getD j 0))]) hrow (fun i hi=>rfl) hi)
 ·have h':¬(x.Op=30∨x.Op=39):=by simpa using h
  have e:(P++[x.V.Who])++x.V.Dims.map D.Dim.I=R:=by rw[hheld,Alg h',Alw (by simpa using k),Alw (by simpa using q)];simp
  refine AA.le (l':=[(3,.ow 0 0 (P++[x.V.Who]).length),(45,Dc true x.V.Dims),(46,Aa x.V.Dims.length),(47,Aa 0)]) (hs':=[.arr true 0 (P++[x.V.Who]).length 1 (AM (P++[x.V.Who]))]) ?_ ?_ (loop _ (by simp;omega) e)
  ·rw[show P.length+1=(P++[x.V.Who]).length by simp];exact AO _
  ·rw[show P.length+1=(P++[x.V.Who]).length by simp]
   exact⟨AlM fun i hi=>AQ (B6 (f:=fun n=>[Aa n]) (d:=0) (l:=P) (r:=[x.V.Who]) hrow Hk hi),trivial⟩
 ·have h':¬(x.Op=30∨x.Op=39):=by simpa using h
  have e:P++x.V.Dims.map D.Dim.I=R:=by rw[hheld,Alg h',Alw (by simpa using k),Alg (by simpa using q)];simp
  exact AbC (G:=AM P) (fun i hi=>hrow i hi) (loop _ (by omega) e)
 ·have h':¬(x.Op=30∨x.Op=39):=by simpa using h
  have e:R=P:=by rw[hheld,Alg h',Alg (by simpa using k)];simp
  subst e
  exact AmE (.inl rfl) fun i hi=>AQ (hrow i hi)
structure Hp (m:D.Model):Prop where
 wf:Ay m
 ex:∀ k:Nat,k<m.Exprs.length->EN m k=true
def InE (m:D.Model)(l:List Int):Prop:=∀ x∈l,0<=x/\x<m.Exprs.length
theorem VB {m:D.Model}{k:Int}(h0:0<=k)(h:k<m.Exprs.length):Aw m k∈m.Exprs:=Av (by omega)
theorem Hp.at {m:D.Model}(h:Hp m){k:Int}(h0:0<=k)(hk:k<m.Exprs.length):EN m k=true:=by
 have:=h.ex k.toNat (by omega)
 rwa [show((k.toNat:Nat):Int)=k by omega]at this
theorem Hp.held {m:D.Model}(h:Hp m){k:Int}(h0:0<=k)(hk:k<m.Exprs.length):InE m (Ci (Aw m k)):=fun x hx=>by
 have:=ZQ (h.at h0 hk) x hx;omega
theorem Hp.small {m:D.Model}(h:Hp m):∀ x∈m.Exprs,x.Args.length<=1048576/\x.V.Dims.length<=1048576:=fun x hx =>
 ⟨(h.wf.Exprs.2 x hx).Args.1,(h.wf.Exprs.2 x hx).V.Dims.1⟩
theorem Hp.slots {m:D.Model}(h:Hp m){k:Int}(h0:0<=k)(hk:k<m.Exprs.length)(h2:(Aw m k).Op=2):(Aw m k).V.Scope≠0->(Aw m k).V.Scope≠1->0<=(Aw m k).V.Type_/\(Aw m k).V.Type_<m.Procs.length:=by
 have hx:=h.at h0 hk
 unfold EN at hx
 simp only[Ak2]at hx
 obtain⟨_,hO⟩:=hx
 generalize Aw m k=x at *
 rw[Alg (by omega),Alw h2]at hO
 simp only[Ak2,EH]at hO
 obtain⟨⟨⟨⟨⟨⟨hs0,hs2⟩,_⟩,_⟩,_⟩,hW⟩,_⟩:=hO
 intro n0 n1
 have hs:x.V.Scope=2:=by simp at hs0 hs2;omega
 simp only[hs,decide_true,Ak4,Ak2]at hW
 have:=hW.2
 unfold DY at this
 simp at this;omega
structure Inv (m:D.Model) (i run:Int) (n:Nat) (b:Bool) (seen:List Bool) (todo:List Int) (k:Nat):Prop where
 sl:seen.length=m.Exprs.length
 le:k<=todo.length
 mem:InE m todo
 sum:todo.length+load m seen=n
 res:Pi m i run (todo.length - k+load m seen+1) seen (todo.drop k)=b
section
variable {m : D.Model} {i run:Int} {n:Nat} {b:Bool} {seen:List Bool} {todo:List Int} {k:Nat}
theorem Inv.at (h:Inv m i run n b seen todo k)(hk:k<todo.length):0<=todo.getD k 0/\todo.getD k 0<m.Exprs.length:=h.mem _ (Av hk)
theorem Inv.step (h:Inv m i run n b seen todo k)(hk:k<todo.length) :
  (bif seen.getD (todo.getD k 0).toNat false then Pi m i run (todo.length - (k+1)+load m seen+1) seen (todo.drop (k+1)) else bif F9 m i run (todo.getD k 0) then false
   else Pi m i run (todo.length - (k+1)+load m seen+1) (seen.set (todo.getD k 0).toNat true) (todo.drop (k+1)++Ci (Aw m (todo.getD k 0))))=b:=by
 have:=h.res
 rw[B8 (d:=0) hk,show todo.length - k+load m seen+1=(todo.length - (k+1)+load m seen+1)+1 by omega]at this
 exact this
theorem Inv.had (h:Inv m i run n b seen todo k)(hk:k<todo.length)(hs:seen.getD (todo.getD k 0).toNat false=true):Inv m i run n b seen todo (k+1):=by
 have:=h.step hk
 rw[hs,Ak4]at this
 exact⟨h.sl,hk,h.mem,h.sum,this⟩
theorem Inv.bad (h:Inv m i run n b seen todo k)(hk:k<todo.length)(hs:seen.getD (todo.getD k 0).toNat false=false)(hu:F9 m i run (todo.getD k 0)=true):false=b:=by
 have:=h.step hk
 rw[hs,Ak0,hu,Ak4]at this
 exact this
theorem Inv.more (hr:Hp m)(h:Inv m i run n b seen todo k)(hk:k<todo.length)(hs:seen.getD (todo.getD k 0).toNat false=false)(hu:F9 m i run (todo.getD k 0)=false) :
  Inv m i run n b (seen.set (todo.getD k 0).toNat true) (todo++Ci (Aw m (todo.getD k 0))) (k+1):=by
 have ht:=h.at hk
 have hl:=Afd (m:=m) hs (by rw[h.sl];omega) h.sl
 have:=h.step hk
 rw[hs,Ak0,hu,Ak0]at this
 have hsum:=h.sum
 have hx:m.Exprs.getD (todo.getD k 0).toNat default=Aw m (todo.getD k 0):=rfl
 rw[hx]at hl
 refine⟨by simp[h.sl],by simp;omega,fun x hxm=>?_,by rw[Alh];omega,?_⟩
 ·rcases AlA.1 hxm with hxm | hxm
  ·exact h.mem x hxm
  ·exact hr.held ht.1 ht.2 x hxm
 ·rw[List.drop_append_of_le_length hk,Alh]
  rw[show todo.length+(Ci (Aw m (todo.getD k 0))).length - (k+1)+load m (seen.set (todo.getD k 0).toNat true)+1=todo.length - (k+1)+load m seen+1 by omega]
  exact this
end
theorem Rl (m:D.Model)(i run k:Int):F9 m i run k=((bif bif (Aw m k).Op==39 then k != run else false then true else bif i==m.Claim then bif bif (Aw m k).Op==31 then true else(Aw m k).Op==39 then true else bif (Aw m k).Op==2 then(Aw m k).V.Scope==1 else false else false) ||
  ((Aw m k).Op==2&&decide (MY m i (Aw m k).V<Es (Aw m k).V))):=by
 unfold F9
 simp only[ieq,A6,A3,bne,Amb,decide_not]
theorem SQ {l:List Bool}{t j:Nat}(hj:j<l.length):(bif j.beq t then[VV.sc (.bool true)] else[.sc (.bool (l.getD j false))])=[Ac ((l.set t true).getD j false)]:=by
 cases hq:j.beq t with
 | true =>
  have:=Ak7 hq;subst this
  simp[List.getD,hj,Ac]
 | false =>
  have hne:t≠j:=by rintro rfl;simp at hq
  simp[List.getD,hne,Ac]
theorem Z6 {l r:List Int}{F:Nat->List VV}(hF:∀ i,i<l.length->F i=[Aa (l.getD i 0)]){i:Nat}(hi:i<(l++r).length):(bif i.blt l.length then F i else(fun j=>[Aa (r.getD j 0)]) (i - l.length))=AM (l++r) i :=
 B6 (f:=fun n=>[Aa n]) (d:=0) (l:=l) (r:=r) (G:=fun j=>[Aa (r.getD j 0)]) hF (fun _ _=>rfl) hi
theorem AaP {m:D.Model}{i run:Int}{list:List Int}(hr:Hp m)(hi0:0<=i)(hi:i<m.Procs.length)(hin:InE m list)(hlen:list.length<=2097152) :
  Ai Tryz.prog 75 [] [tpM m,Aa i,Ad false list,Aa run] [] (Ac (Jo m i list run)):=by
 have hN:=hr.wf.Exprs.1
 have hload:=Ahc hr.small (Bg m)
 have hmul:m.Exprs.length*2097156<=1048576*2097156:=Alo _ hN
 generalize hb:Jo m i list run=b
 have inv0:Inv m i run (list.length+load m (Bg m)) b (Bg m) list 0:=⟨by simp[Bg],Alc _,hin,rfl,by rw[← hb]<;>rfl⟩
 generalize hn:list.length+load m (Bg m)=n at inv0
 have hn2:n<=4398046511104:=by omega
 have small:∀ {t:Int},0<=t->t<m.Exprs.length->(Aw m t).Args.length<=1048576/\(Aw m t).V.Dims.length<=1048576:=fun h0 h1=>hr.small _ (VB h0 h1)
 have wfv:∀ {t:Int},0<=t->t<m.Exprs.length->K5 (Aw m t).V:=fun h0 h1=>(hr.wf.Exprs.2 _ (VB h0 h1)).V
 refine Ah Al Am Tryz.func75 (by kernel_rfl) rfl (AdT _ m i list run) ?_
 refine M0 Al Am 0 (fun g st=>∃ (seen:List Bool) (todo:List Int) (k:Nat),Inv m i run n b seen todo k/\g=todo.length - k+load m seen/\st=PC m i list run seen todo k) (by kernel_rfl) (by kernel_rfl) (by kernel_rfl) (by kernel_rfl) (Alu (AaR _ m i list run _) ?_) fun g st h=>?_
 ·have hnn:((m.Exprs.length:Int).toNat)=m.Exprs.length:=by omega
  rw[hnn]
  have hto:Int.toNat 0=0:=rfl
  have hz:∀ j,j<m.Exprs.length->(Bg m).getD j false=false:=fun j hj=>by simp[Bg,List.getD,hj]
  have hsl:(Bg m).length=m.Exprs.length:=by simp[Bg]
  refine⟨⟨by omega,by omega,by omega⟩,by omega,fun _ _=>rfl,fun h=>AG ?_,fun h=>?_⟩
  ·have h0:list.length=0:=by simp at h;omega
   have:=inv0.res
   rw[Alz h0]at this
   rw[← this]<;>rfl
  ·have h0:0<list.length:=by simp at h;omega
   have ht:=inv0.at h0
   rw[hto]
   have hs:=hz (list.getD 0 0).toNat (by omega)
   have hbad:=Rl m i run (list.getD 0 0)
   have more:=fun hu=>inv0.more hr h0 hs hu
   have bad:=fun hu=>inv0.bad h0 hs hu
   have hsm:=small ht.1 ht.2
   have hwv:=wfv ht.1 ht.2
   have hsum:=inv0.sum
   have hsl2:=hr.slots ht.1 ht.2
   refine⟨⟨by omega,by omega⟩,⟨by omega,by omega⟩,fun h=>(by cases h),fun _=>⟨⟨by omega,by omega⟩,⟨by omega,by omega⟩,fun hc=>AG (bad (by rw[hbad,Amd];exact .inl hc)),fun hc=>?_⟩⟩
   have fin:F9 m i run (list.getD 0 0)=false->(list.length+(Ci (Aw m (list.getD 0 0))).length)*8<=140737488355328/\∃ g,Up (fun st=>∃ (seen:List Bool) (todo:List Int) (k:Nat),Inv m i run n b seen todo k/\g=todo.length - k+load m seen/\st=PC m i list run seen todo k)
     (Aq [(0,tpM m),(1,Aa i),(2,Ad false list),(3,Aa run),(9,.ow 0 0 m.Exprs.length),(10,.ow 1 0 (list.length+(Ci (Aw m (list.getD 0 0))).length)),(11,Aa (IntKind.i64.wrap (0+1)))]
      [.arr true 0 m.Exprs.length 1 (fun j=>bif j.beq (list.getD 0 0).toNat then[.sc (.bool true)] else[.sc (.bool false)]),.arr true 0 (list.length+(Ci (Aw m (list.getD 0 0))).length) 1 (fun j=>bif j.blt list.length then(fun j=>[Aa (list.getD j 0)]) j else(fun j=>[Aa ((Ci (Aw m (list.getD 0 0))).getD j 0)]) (j - list.length))]):=by
    intro hu
    have hm:=more hu
    have hm2:=hm.sum
    generalize Ci (Aw m (list.getD 0 0))=H at hm hm2 ⊢
    generalize (list.getD 0 0).toNat=t at hm hm2 ⊢
    rw[Alh]at hm2
    refine⟨by omega,(list++H).length - (0+1)+load m ((Bg m).set t true),?_⟩
    have hw1:IntKind.i64.wrap (0+1)=((1:Nat):Int):=rfl
    have hnl:m.Exprs.length=((Bg m).set t true).length:=by simp[Bg]
    refine Up.mk (l':=[(0,tpM m),(1,Aa i),(2,Ad false list),(3,Aa run),(9,.ow 0 0 ((Bg m).set t true).length),(10,.ow 1 0 (list++H).length),(11,Aa ((1:Nat):Int))])
     (hs':=[.arr true 0 ((Bg m).set t true).length 1 (HH ((Bg m).set t true)),.arr true 0 (list++H).length 1 (AM (list++H))]) ?_ ?_ ⟨_,_,_,hm,rfl,rfl⟩
    ·rw[hw1,← hnl,Alh];exact AO _
    ·rw[← hnl,← Alh]
     refine⟨AlM fun j hj=>AQ ?_,AlM fun j hj=>AQ (Z6 (fun i hi=>rfl) hj),trivial⟩
     have:=SQ (l:=Bg m) (t:=t) (j:=j) (by omega)
     rw[hz j hj]at this
     exact this
   refine⟨fun h2=>⟨_,GP hwv,_,PJ (fun _=>⟨hi0,hi⟩) (hsl2 (eq_of_beq h2)),fun h3=>AG (bad ?_),fun h3=>?_⟩,fun h2=>?_⟩
   ·rw[hbad,Amd,Ak2];exact .inr ⟨h2,h3⟩
   ·have hu:F9 m i run (list.getD 0 0)=false:=by
     rw[hbad,Aln,AmJ];exact⟨hc,.inr h3⟩
    obtain⟨f1,f2⟩:=fin hu
    exact⟨Ci (Aw m (list.getD 0 0)),Il hsm.1 hsm.2,f1,fun i hi=>rfl,f2⟩
   ·have hu:F9 m i run (list.getD 0 0)=false:=by
     rw[hbad,Aln,AmJ];exact⟨hc,.inl h2⟩
    obtain⟨f1,f2⟩:=fin hu
    exact⟨Ci (Aw m (list.getD 0 0)),Il hsm.1 hsm.2,f1,fun i hi=>rfl,f2⟩
 ·obtain⟨seen,todo,k,inv,rfl,rfl⟩:=h
  refine Alu (AaQ _ m i list run seen todo k _) ⟨fun h=>AG ?_,fun h=>?_⟩
  ·have h0:k=todo.length:=by simp at h;omega
   have:=inv.res
   rw[Amp (by omega)]at this
   rw[← this,Pi]
  ·have hle:=inv.le
   have h0:k<todo.length:=by simp at h;omega
   have ht:=inv.at h0
   have hto:(k:Int).toNat=k:=by omega
   rw[hto]
   have hbad:=Rl m i run (todo.getD k 0)
   have hsm:=small ht.1 ht.2
   have hwv:=wfv ht.1 ht.2
   have hsum:=inv.sum
   have hsle:=inv.sl
   have hsl2:=hr.slots ht.1 ht.2
   refine⟨⟨by omega,by omega⟩,⟨by omega,by omega⟩,fun hs=>?_,fun hs=>?_⟩
   ·have hh:=inv.had h0 hs
    refine⟨todo.length - (k+1)+load m seen,by omega,Up.of ⟨seen,todo,k+1,hh,rfl,?_⟩⟩
    rw[An (by omega)]<;>rfl
   have more:=fun hu=>inv.more hr h0 hs hu
   have bad:=fun hu=>inv.bad h0 hs hu
   refine⟨⟨by omega,by omega⟩,⟨by omega,by omega⟩,fun hc=>AG (bad (by rw[hbad,Amd];exact .inl hc)),fun hc=>?_⟩
   have fin:F9 m i run (todo.getD k 0)=false->(todo.length+(Ci (Aw m (todo.getD k 0))).length)*8<=140737488355328/\∃ g',g'<todo.length - k+load m seen/\Up (fun st=>∃ (seen:List Bool) (todo:List Int) (k:Nat),Inv m i run n b seen todo k/\g'=todo.length - k+load m seen/\st=PC m i list run seen todo k)
     (Aq [(0,tpM m),(1,Aa i),(2,Ad false list),(3,Aa run),(9,.ow 0 0 seen.length),(10,.ow 1 0 (todo.length+(Ci (Aw m (todo.getD k 0))).length)),(11,Aa (IntKind.i64.wrap (k+1)))]
      [.arr true 0 seen.length 1 (fun j=>bif j.beq (todo.getD k 0).toNat then[.sc (.bool true)] else[.sc (.bool (seen.getD j false))]),.arr true 0 (todo.length+(Ci (Aw m (todo.getD k 0))).length) 1 (fun j=>bif j.blt todo.length then AM todo j else(fun j=>[Aa ((Ci (Aw m (todo.getD k 0))).getD j 0)]) (j - todo.length))]):=by
    intro hu
    have hm:=more hu
    have hm2:=hm.sum
    generalize Ci (Aw m (todo.getD k 0))=H at hm hm2 ⊢
    generalize (todo.getD k 0).toNat=t at hm hm2 ⊢
    rw[Alh]at hm2
    refine⟨by omega,(todo++H).length - (k+1)+load m (seen.set t true),by rw[Alh];omega,?_⟩
    have hnl:seen.length=(seen.set t true).length:=by simp
    refine Up.mk (l':=[(0,tpM m),(1,Aa i),(2,Ad false list),(3,Aa run),(9,.ow 0 0 (seen.set t true).length),(10,.ow 1 0 (todo++H).length),(11,Aa ((k+1:Nat):Int))])
     (hs':=[.arr true 0 (seen.set t true).length 1 (HH (seen.set t true)),.arr true 0 (todo++H).length 1 (AM (todo++H))]) ?_ ?_ ⟨_,_,_,hm,rfl,rfl⟩
    ·rw[An (by omega),← hnl,Alh];exact AO _
    ·rw[← hnl,← Alh]
     exact⟨AlM fun j hj=>AQ (SQ hj),AlM fun j hj=>AQ (Z6 (fun i hi=>rfl) hj),trivial⟩
   refine⟨fun h2=>⟨_,GP hwv,_,PJ (fun _=>⟨hi0,hi⟩) (hsl2 (eq_of_beq h2)),fun h3=>AG (bad ?_),fun h3=>?_⟩,fun h2=>?_⟩
   ·rw[hbad,Amd,Ak2];exact .inr ⟨h2,h3⟩
   ·have hu:F9 m i run (todo.getD k 0)=false:=by
     rw[hbad,Aln,AmJ];exact⟨hc,.inr h3⟩
    obtain⟨f1,f2⟩:=fin hu
    exact⟨Ci (Aw m (todo.getD k 0)),Il hsm.1 hsm.2,f1,fun i hi=>rfl,f2⟩
   ·have hu:F9 m i run (todo.getD k 0)=false:=by
     rw[hbad,Aln,AmJ];exact⟨hc,.inl h2⟩
    obtain⟨f1,f2⟩:=fin hu
    exact⟨Ci (Aw m (todo.getD k 0)),Il hsm.1 hsm.2,f1,fun i hi=>rfl,f2⟩
theorem YY {m:D.Model}{i run:Int}{list:List Int}{n:Nat}{F:Nat->List VV}(hr:Hp m)(hi0:0<=i)(hi:i<m.Procs.length)(hin:InE m list)(hlen:list.length<=2097152)(hn:n=list.length)(hF:∀ j,j<list.length->F j=[Aa (list.getD j 0)]) :
  Ai Tryz.prog 75 [] [tpM m,Aa i,.sl false n 1 F,Aa run] [] (Ac (Jo m i list run)):=by
 subst hn
 exact(AaP hr hi0 hi hin hlen).le trivial ⟨VV.le_refl _,VV.le_refl _,AmE (.inl rfl) fun j hj=>AQ (hF j hj),VV.le_refl _,trivial⟩ trivial (VV.le_refl _)
def Bu (s:D.Stmt):List Int:=s.Args++((if 0<=s.A then[s.A] else[])++(if 0<=s.B then[s.B] else[]))
theorem Ib {m:D.Model}{a:Int}(h:Ez m a=true):0<=a/\a<m.Exprs.length:=CC.1 h
theorem Pu {m:D.Model}{a:Int}(h:CT m a=true):0<=a/\a<m.Exprs.length:=by
 unfold CT at h
 simp only[Ak2]at h
 exact Ib h.1.1
theorem U7 {m:D.Model}{a:Int}{args mt:List Int}(h:Cu m a args mt=true):1<=args.length/\args.length<=8/\mt.length=args.length/\∀ x∈args,0<=x/\x<a:=by
 unfold Cu at h
 simp only[Ak2,Ak5]at h
 exact⟨h.1.1.1.1,h.1.1.1.2,h.1.1.2,FH.1 h.1.2⟩
theorem Agr {m:D.Model}{s:D.Stmt}(h:AL m s=true):InE m s.Args/\(0<=s.A->s.A<m.Exprs.length)/\(0<=s.B->s.B<m.Exprs.length):=by
 have none:∀ {n t:Bool},FD s true n t=true->InE m s.Args:=fun he=>by
  unfold FD at he
  simp only[Ak2,AmL,Ana,Ak5]at he
  have:s.Args=[]:=Alz (by omega)
  rw[this];intro x hx;cases hx
 unfold AL at h
 split at h
 ·simp only[Ak2,Ak5]at h
  exact⟨none h.2,fun _=>(Ib h.1.1).2,fun h0=>by omega⟩
 split at h
 ·simp only[Ak2]at h
  exact⟨none h.2,fun _=>(Pu h.1.1).2,fun _=>(Ib h.1.2).2⟩
 split at h
 ·simp only[Ak2,Ak5]at h
  exact⟨FH.1 h.1.1.1.2,fun h0=>by omega,fun h0=>by omega⟩
 split at h
 ·simp only[Ak2,Ak5]at h
  exact⟨FH.1 h.1.1.1.2,fun _=>(Ib h.1.1.1.1.1.1.1).2,fun h0=>by omega⟩
 split at h
 ·simp only[Ak2,Ak5]at h
  have ht:=h.1.1.1.2
  unfold IC at ht
  simp only[Ak2]at ht
  exact⟨(U7 ht.1).2.2.2,fun _=>(Ib h.1.1.1.1.1).2,fun h0=>by omega⟩
 split at h
 ·simp only[Ak2,Ak5]at h
  exact⟨none h.2,fun h0=>by omega,fun h0=>by omega⟩
 split at h
 ·simp only[Ak2,Ak5]at h
  exact⟨none h.2,fun _=>(Pu h.1.1.1.1).2,fun h0=>by omega⟩
 ·cases h
theorem WG {m:D.Model}{s:D.Stmt}(h:AL m s=true):InE m (Bu s):=by
 obtain⟨h1,h2,h3⟩:=Agr h
 intro x hx
 unfold Bu at hx
 rcases AlA.1 hx with hx | hx
 ·exact h1 x hx
 rcases AlA.1 hx with hx | hx
 ·split at hx
  ·rename_i h0;obtain rfl:=Aly.1 hx;exact⟨h0,h2 h0⟩
  ·cases hx
 ·split at hx
  ·rename_i h0;obtain rfl:=Aly.1 hx;exact⟨h0,h3 h0⟩
  ·cases hx
theorem AdJ {m:D.Model}{i:Int}{s:D.Stmt}(hr:Hp m)(hi0:0<=i)(hi:i<m.Procs.length)(hs:YJ s):Ai Tryz.prog 74 [] [tpM m,Aa i,.agg (Ap s)] [] (Ac (MQ m i s)):=by
 have ha:=hs.a
 have hkn:∀ {k:Int},(s.Kind==k)=true->s.Kind=k:=fun h=>by simpa using h
 have hkf:∀ {k:Int},(s.Kind==k)=false->s.Kind≠k:=fun h=>by simpa using h
 have ec:(bif bif bif bif i==m.Claim then s.Kind != 1 else false then s.Kind != 3 else false then s.Kind != 7 else false then s.Kind != 8 else false)=(decide (i=m.Claim)&&(decide (s.Kind≠1)&&(decide (s.Kind≠3)&&(decide (s.Kind≠7)&&decide (s.Kind≠8))))):=by
  simp only[ieq,A6,bne,Bool.and_assoc,decide_not]
 refine Ah Al Am Tryz.func74 (by kernel_rfl) rfl (Agg _ m i s) ⟨AL m s,Py hs,?_⟩
 rw[ec]
 have ew:MQ m i s=(AL m s&&!(decide (i=m.Claim)&&(decide (s.Kind≠1)&&(decide (s.Kind≠3)&&(decide (s.Kind≠7)&&decide (s.Kind≠8)))))&&Jo m i (Bu s) (if s.Kind=1 then s.A else if s.Kind=2 then s.B else -1)):=rfl
 generalize (decide (i=m.Claim)&&(decide (s.Kind≠1)&&(decide (s.Kind≠3)&&(decide (s.Kind≠7)&&decide (s.Kind≠8)))))=cl at ew ⊢
 refine⟨fun h=>AG ?_,fun h=>?_⟩
 ·rw[ew]
  cases hq:AL m s
  ·rfl
  ·rw[hq]at h
   have:cl=true:=by simpa using h
   rw[this]<;>rfl
 ·have hq:AL m s=true:=by
   cases hq:AL m s with
   | true=>rfl
   | false=>rw[hq]at h;simp at h
  have hcl:cl=false:=by rw[hq]at h;simpa using h
  rw[hq,hcl]at ew
  simp only[Bool.not_false,AlV]at ew
  have hin:=WG hq
  have go:∀ (run:Int) (n:Nat) (F:Nat->List VV),n=(Bu s).length->(∀ j,j<(Bu s).length->F j=[Aa ((Bu s).getD j 0)])->Ai Tryz.prog 75 [] [tpM m,Aa i,.sl false n 1 F,Aa run] [] (Ac (Jo m i (Bu s) run)):=fun run n F hn hF =>
   YY hr hi0 hi hin (by unfold Bu;simp only[Alh];split<;>split<;>simp<;>omega) hn hF
  have r1:s.Kind=1->MQ m i s=Jo m i (Bu s) s.A:=fun h=>by rw[ew,Alw h]
  have r2:s.Kind≠1->s.Kind=2->MQ m i s=Jo m i (Bu s) s.B:=fun h h'=>by rw[ew,Alg h,Alw h']
  have r3:s.Kind≠1->s.Kind≠2->MQ m i s=Jo m i (Bu s) (-1):=fun h h'=>by rw[ew,Alg h,Alg h']
  generalize MQ m i s=b at r1 r2 r3 ⊢
  refine⟨by omega,fun _ _=>rfl,fun hA=>⟨by omega,fun hB=>⟨by omega,?_⟩,fun hB=>?_⟩,fun hA=>⟨fun hB=>⟨by omega,?_⟩,fun hB=>?_⟩⟩
  ·have hL:Bu s=(s.Args++[s.A])++[s.B]:=by unfold Bu;rw[Alw (by simpa using hA),Alw (by simpa using hB),AlS]
   have c1:s.Args.length+1+1=(Bu s).length:=by rw[hL];simp
   have e1:s.Args.length+1=(s.Args++[s.A]).length:=by simp
   have c2:∀ j,j<(Bu s).length->(bif Nat.blt j (s.Args.length+1) then(fun j=>bif Nat.blt j s.Args.length then[VV.sc (.int .i64 (s.Args.getD j 0))] else(fun i=>List.take 1 (List.drop (i*1) [VV.sc (.int .i64 s.A)])) (j - s.Args.length)) j else(fun i=>List.take 1 (List.drop (i*1) [VV.sc (.int .i64 s.B)])) (j - (s.Args.length+1)))=[Aa ((Bu s).getD j 0)]:=by
    rw[hL,e1]
    exact fun j hj=>B6 (f:=fun n=>[Aa n]) (d:=0) (l:=s.Args++[s.A]) (r:=[s.B]) (F:=fun j=>bif Nat.blt j s.Args.length then[VV.sc (.int .i64 (s.Args.getD j 0))] else(fun i=>List.take 1 (List.drop (i*1) [VV.sc (.int .i64 s.A)])) (j - s.Args.length)) (fun i hi=>B6 (f:=fun n=>[Aa n]) (d:=0) (l:=s.Args) (r:=[s.A]) (F:=fun j=>[.sc (.int .i64 (s.Args.getD j 0))]) (fun i hi=>rfl) Hk hi) Hk hj
   exact⟨fun k1=>⟨_,go _ _ _ c1 c2,AG (r1 (hkn k1)).symm⟩,fun k1=>⟨fun k2=>⟨_,go _ _ _ c1 c2,AG (r2 (hkf k1) (hkn k2)).symm⟩,fun k2=>⟨_,go _ _ _ c1 c2,AG (r3 (hkf k1) (hkf k2)).symm⟩⟩⟩
  ·have hL:Bu s=s.Args++[s.A]:=by unfold Bu;rw[Alw (by simpa using hA),Alg (by simpa using hB),Al4]
   have c1:s.Args.length+1=(Bu s).length:=by rw[hL];simp
   have c2:∀ j,j<(Bu s).length->(bif Nat.blt j s.Args.length then[VV.sc (.int .i64 (s.Args.getD j 0))] else(fun i=>List.take 1 (List.drop (i*1) [VV.sc (.int .i64 s.A)])) (j - s.Args.length))=[Aa ((Bu s).getD j 0)]:=by
    rw[hL]
    exact fun j hj=>B6 (f:=fun n=>[Aa n]) (d:=0) (l:=s.Args) (r:=[s.A]) (F:=fun j=>[.sc (.int .i64 (s.Args.getD j 0))]) (fun i hi=>rfl) Hk hj
   exact⟨fun k1=>⟨_,go _ _ _ c1 c2,AG (r1 (hkn k1)).symm⟩,fun k1=>⟨fun k2=>⟨_,go _ _ _ c1 c2,AG (r2 (hkf k1) (hkn k2)).symm⟩,fun k2=>⟨_,go _ _ _ c1 c2,AG (r3 (hkf k1) (hkf k2)).symm⟩⟩⟩
  ·have hL:Bu s=s.Args++[s.B]:=by unfold Bu;rw[Alg (by simpa using hA),Alw (by simpa using hB),AmA]
   have c1:s.Args.length+1=(Bu s).length:=by rw[hL];simp
   have c2:∀ j,j<(Bu s).length->(bif Nat.blt j s.Args.length then[VV.sc (.int .i64 (s.Args.getD j 0))] else(fun i=>List.take 1 (List.drop (i*1) [VV.sc (.int .i64 s.B)])) (j - s.Args.length))=[Aa ((Bu s).getD j 0)]:=by
    rw[hL]
    exact fun j hj=>B6 (f:=fun n=>[Aa n]) (d:=0) (l:=s.Args) (r:=[s.B]) (F:=fun j=>[.sc (.int .i64 (s.Args.getD j 0))]) (fun i hi=>rfl) Hk hj
   exact⟨fun k1=>⟨_,go _ _ _ c1 c2,AG (r1 (hkn k1)).symm⟩,fun k1=>⟨fun k2=>⟨_,go _ _ _ c1 c2,AG (r2 (hkf k1) (hkn k2)).symm⟩,fun k2=>⟨_,go _ _ _ c1 c2,AG (r3 (hkf k1) (hkf k2)).symm⟩⟩⟩
  ·have hL:Bu s=s.Args:=by unfold Bu;rw[Alg (by simpa using hA),Alg (by simpa using hB),Al4,Al4]
   have c1:s.Args.length=(Bu s).length:=by rw[hL]
   have c2:∀ j,j<(Bu s).length->[Aa (s.Args.getD j 0)]=[Aa ((Bu s).getD j 0)]:=by rw[hL];exact fun _ _=>rfl
   exact⟨fun k1=>⟨_,go _ _ _ c1 c2,AG (r1 (hkn k1)).symm⟩,fun k1=>⟨fun k2=>⟨_,go _ _ _ c1 c2,AG (r2 (hkf k1) (hkn k2)).symm⟩,fun k2=>⟨_,go _ _ _ c1 c2,AG (r3 (hkf k1) (hkf k2)).symm⟩⟩⟩
theorem AdC {t:D.Trans}(h:O4 t):YJ t.S:=⟨h.S.Args.1,h.S.Match.1⟩
theorem Agf {l:D.Loc}(h:O6 l):(DL l).length<=1048577/\∀ w∈DL l,Kb w:=by
 refine⟨by have:=h.Esc.1;simp[DL];omega,fun w hw=>?_⟩
 rcases AlQ.1 hw with rfl | hw
 ·exact h.Out
 ·exact h.Esc.2 w hw
theorem AbY {m:D.Model}{i:Int}(hr:Hp m)(hi0:0<=i)(hi:i<m.Procs.length)(hpv:(m.Procs.getD i.toNat default).Provided<m.Exprs.length) :
  Ai Tryz.prog 53 [] [tpM m,Aa i] [] (Ac (DQ m i)):=by
 have hw:=hr.wf.Procs.2 _ (Av (d:=default) (show i.toNat<m.Procs.length by omega))
 refine Ah Al Am Tryz.func53 (by kernel_rfl) rfl (AeQ _ m i) ⟨⟨hi0,hi⟩,?_⟩
 generalize hb:DQ m i=b
 unfold DQ at hb
 simp only at hb
 generalize m.Procs.getD i.toNat default=p at hw hpv hb ⊢
 have hl:=hw.Locs.1
 have bad:∀ k,k<p.Locs.length->Tf m i (p.Locs.getD k default)=false->false=b:=fun k hk hf=>by
  rw[De (f:=fun k=>Tf m i (p.Locs.getD k default)) hk hf]at hb
  simpa using hb
 refine AK Al Am p.Locs.length (fun k=>L2 m i p k) (fun k=>∀ j,j<k->Tf m i (p.Locs.getD j default)=true) (by kernel_rfl) (by kernel_rfl) (fun i hi=>by omega) ?_
 intro k hk hI J next
 refine Alu (Ab1 _ m i p k J) ⟨fun hlt=>?_,fun hge=>⟨Jo m i [p.Provided] (-1),fun hy=>?_,AG ?_⟩⟩
 ·have hlt':k<p.Locs.length:=by have:=AV hlt;omega
  have hto:(k:Int).toNat=k:=by omega
  rw[hto]
  have hwl:=hw.Locs.2 _ (Av (d:=default) hlt')
  have bad':=bad k hlt'
  have next':∀ st',Tf m i (p.Locs.getD k default)=true->Up (fun s=>s=L2 m i p ((k+1:Nat):Int)) st'->J st':=fun st' h hu=>next st' hlt' (fun j hj=>by
   rcases AlD.1 hj with h' | rfl
   ·exact hI j h'
   ·exact h) hu
  generalize p.Locs.getD k default=l at hwl bad' next' ⊢
  obtain⟨hws,hwe⟩:=Agf hwl
  refine⟨⟨by omega,by omega⟩,DL l,Rc hwl.Esc.1,?_⟩
  unfold Tf at bad' next'
  generalize DL l=ws at hws hwe bad' next' ⊢
  refine AK Al Am ws.length (fun j=>LZ m i p k ws j) (fun j=>∀ x,x<j->Lb m i (ws.getD x [])=true) (by kernel_rfl) (by kernel_rfl) (fun i hi=>by omega) ?_
  intro j hj hI2 J2 next2
  refine Alu (Ab0 _ m i p k ws j J J2) ⟨fun hlt2=>?_,fun hge2=>?_⟩
  ·have hlt2':j<ws.length:=by have:=AV hlt2;omega
   have hto2:(j:Int).toNat=j:=by omega
   rw[hto2]
   have hwle:=hwe _ (Av (d:=[]) hlt2')
   have bad2:Lb m i (ws.getD j [])=false->false=b:=fun hf=>bad' (De (f:=fun x=>Lb m i (ws.getD x [])) hlt2' hf)
   have next2':∀ st',Lb m i (ws.getD j [])=true->Up (fun s=>s=LZ m i p k ws ((j+1:Nat):Int)) st'->J2 st':=fun st' h hu=>next2 st' hlt2' (fun x hx=>by
    rcases AlD.1 hx with h' | rfl
    ·exact hI2 x h'
    ·exact h) hu
   generalize ws.getD j []=w at hwle bad2 next2' ⊢
   have hwl1:=hwle.1
   refine⟨⟨by omega,by omega⟩,?_⟩
   refine AK Al Am w.length (fun h=>Ox m i p k ws j w h) (fun h=>∀ x,x<h->MQ m i (w.getD x default).S=true) (by kernel_rfl) (by kernel_rfl) (fun i hi=>by omega) ?_
   intro h hh hI3 J3 next3
   refine Alu (AbZ _ m i p k ws j w h J J2 J3) ⟨fun hlt3=>?_,fun hge3=>?_⟩
   ·have hlt3':h<w.length:=by have:=AV hlt3;omega
    have hto3:(h:Int).toNat=h:=by omega
    rw[hto3]
    have hst:=AdC (hwle.2 _ (Av (d:=default) hlt3'))
    refine⟨⟨by omega,by omega⟩,MQ m i (w.getD h default).S,AdJ hr hi0 hi hst,fun hy=>AG ?_,fun hy=>next3 _ hlt3' (fun x hx=>?_) (Up.of ?_)⟩
    ·exact bad2 (De (f:=fun x=>MQ m i (w.getD x default).S) hlt3' (by simpa using hy))
    ·rcases AlD.1 hx with h' | rfl
     ·exact hI3 x h'
     ·simpa using hy
    ·rw[An (by omega)]<;>rfl
   ·have hge3':w.length<=h:=by have:=A0 hge3;omega
    refine next2' _ (Bz.2 fun x hx=>hI3 x (by omega)) (Up.of ?_)
    rw[An (by omega)]<;>rfl
  ·have hge2':ws.length<=j:=by have:=A0 hge2;omega
   refine next' _ (Bz.2 fun x hx=>hI2 x (by omega)) (Up.of ?_)
   rw[An (by omega)]<;>rfl
 ·have h0:0<=p.Provided:=by simp at hy;omega
  refine Ai.frz (YY (list:=[p.Provided]) (n:=1) hr hi0 hi (fun x hx=>?_) (by simp) rfl Hk) rfl ?_
  ·obtain rfl:=Aly.1 hx;exact⟨h0,hpv⟩
  ·intro j x y hx hy
   match j with
   | 0=>simp at hx hy;subst hx hy;exact Dt _
   | 1=>simp at hx hy;subst hx hy;exact Dt _
   | 2=>simp only[AlN,Ala,Ak1]at hx hy;subst hx hy;exact Qd
   | 3=>simp at hx hy;subst hx hy;exact Dt _
   | j+4=>simp at hx
 ·have hge':p.Locs.length<=k:=by have:=A0 hge;omega
  rw[← hb,(Bz (n:=p.Locs.length) (f:=fun k=>Tf m i (p.Locs.getD k default))).2 fun j hj=>hI j (by omega),AlV,A3]
theorem R8 {m:D.Model}:∀ (g i:Nat) (had:List Bool),g+i=m.Exprs.length->HZ m g i had<0->∀ j,i<=j->j<m.Exprs.length->EN m j=true
 | 0,i,had,h,_,j,h1,h2=>by omega
 | g+1,i,had,h,hn,j,h1,h2=>by
  unfold HZ at hn
  cases he:EN m i with
  | false=>rw[he,Ak0]at hn;omega
  | true =>
   rw[he,Ak4]at hn
   split at hn
   ·rename_i had' _
    by_cases hij:i=j
    ·subst hij;exact he
    ·exact R8 g (i+1) had' (by omega) hn j (by omega) h2
   ·omega
theorem Vv {m:D.Model}(h:HY m<0):∀ k:Nat,k<m.Exprs.length->EN m k=true:=fun k hk=>R8 _ 0 _ rfl h k (Alc _) hk
theorem G5 {n:Nat}{f:Nat->Bool}(h:JV n f<0):∀ i,i<n->f i=true:=by
 rcases QA (n:=n) (f:=f) with⟨_,h2⟩ | ⟨k,_,h2,_⟩
 ·exact h2
 ·omega
theorem AhO {n:Nat}{f:Nat->Bool}:-1<=JV n f:=by
 rcases QA (n:=n) (f:=f) with⟨h1,_⟩ | ⟨k,_,h2,_⟩<;>omega
theorem ngt (n k:Nat):decide ((n:Int) > k)=decide (k<n):=by rw[Alq,Ak5,Ak5];omega
theorem Uk {m:D.Model}(hw:Ay m):Ai Tryz.prog 49 [] [tpM m] [] (.tup [Aa (CU m).1,Aa (CU m).2]):=by
 have hG:=hw.Globals.1
 have hS:=hw.Shapes.1
 have hC:=hw.Chans.1
 have hE:=hw.Exprs.1
 refine Ah Al Am Tryz.func49 (by kernel_rfl) rfl (WX _ _ m) ?_
 have t1:(bif decide ((m.Globals.length:Int) > 128) then true else(m.Init.length:Int) != (m.Globals.length:Int))=(decide (128<m.Globals.length)||!decide (m.Init.length=m.Globals.length)):=by rw[Alq];simp;omega
 have t2:(bif decide ((m.Shapes.length:Int) > 32) then true else decide ((m.Chans.length:Int) > 32))=(decide (32<m.Shapes.length)||decide (32<m.Chans.length)):=by rw[Alq];simp;omega
 have t3:(bif bif bif bif decide ((m.Procs.length:Int)<1) then true else decide ((m.Procs.length:Int) > 16) then true else decide (m.Claim<(-1:Int)) then true else decide (m.Claim>=(m.Procs.length:Int)) then true else decide ((m.Exprs.length:Int) > 4096)) =
   (decide (m.Procs.length<1)||(decide (16<m.Procs.length)||(decide (m.Claim < -1)||(decide ((m.Procs.length:Int)<=m.Claim)||decide (4096<m.Exprs.length))))):=by
  have u1:decide ((m.Procs.length:Int)<1)=decide (m.Procs.length<1):=by rw[Alq,Ak5,Ak5];omega
  have u2:decide ((m.Procs.length:Int) > 16)=decide (16<m.Procs.length):=ngt _ 16
  have u3:decide ((m.Exprs.length:Int) > 4096)=decide (4096<m.Exprs.length):=ngt _ 4096
  rw[u1,u2,u3];simp only[A3,Amb]
 rw[t1,t2]
 generalize hR:CU m=R
 unfold CU at hR
 refine⟨fun h=>Mw (by rw[h,Ak4]at hR;exact hR),fun h=>⟨Fm m.Globals m.Init,Pk (by simp at h;omega) hG,fun h2=>Mw (by rw[h,Ak0,h2,Ak4]at hR;exact hR),fun h2=>⟨fun h3=>Mw ?_,fun h3=>?_⟩⟩⟩
 ·rw[h,Ak0,h2,Ak0,h3,Ak4]at hR;exact hR
 rw[h,Ak0,h2,Ak0,h3,Ak0]at hR
 refine AK Al Am m.Shapes.length (fun k=>SI m k) (fun k=>∀ i,i<k->D5 (m.Shapes.getD i default)=true) (by kernel_rfl) (by kernel_rfl) (fun i hi=>by omega) ?_
 intro k hk hI J next
 refine Alu (Uo _ _ m k J) ⟨fun hlt=>?_,fun hge=>?_⟩
 ·have hlt':k<m.Shapes.length:=by have:=AV hlt;omega
  refine⟨⟨by omega,by omega⟩,D5 (m.Shapes.getD k default),Xg (hw.Shapes.2 _ (Av hlt')),fun hy=>Mw ?_,fun hy=>next _ hlt' (fun i hi=>?_) (Up.of ?_)⟩
  ·have e:Gt m=k:=Io (f:=fun i=>D5 (m.Shapes.getD i default)) hI hlt' (by simpa using hy)
   rw[e,show decide ((0:Int)<=(k:Int))=true by simp,Ak4]at hR
   exact hR
  ·rcases AlD.1 hi with h | rfl
   ·exact hI i h
   ·simpa using hy
  ·rw[An (by omega)]<;>rfl
 have hge':m.Shapes.length<=k:=by have:=A0 hge;omega
 have es:Gt m=-1:=Ip (f:=fun i=>D5 (m.Shapes.getD i default)) fun i hi=>hI i (by omega)
 rw[es,show decide ((0:Int)<=-1)=false from rfl,Ak0]at hR
 clear hI next
 refine AK Al Am m.Chans.length (fun k=>SH m k) (fun k=>∀ i,i<k->inP m.Shapes.length (m.Chans.getD i 0)=true) (by kernel_rfl) (by kernel_rfl) (fun i hi=>by omega) ?_
 intro k hk hI J next
 refine Alu (Un _ _ m k J) ⟨fun hlt=>?_,fun hge=>?_⟩
 ·have hlt':k<m.Chans.length:=by have:=AV hlt;omega
  have hto:(k:Int).toNat=k:=by omega
  rw[hto]
  have hin:inP m.Shapes.length (m.Chans.getD k 0)=!(bif decide (m.Chans.getD k 0<0) then true else decide (m.Chans.getD k 0>=(m.Shapes.length:Int))):=by unfold inP;rw[Alq];simp
  refine⟨⟨by omega,by omega⟩,fun hy=>Mw ?_,fun hy=>next _ hlt' (fun i hi=>?_) (Up.of ?_)⟩
  ·have e:IY m=k:=Io (f:=fun i=>inP m.Shapes.length (m.Chans.getD i 0)) hI hlt' (by show inP _ _=false;rw[hin,hy]<;>rfl)
   rw[e,show decide ((0:Int)<=(k:Int))=true by simp,Ak4]at hR
   exact hR
  ·rcases AlD.1 hi with h | rfl
   ·exact hI i h
   ·rw[hin,hy]<;>rfl
  ·rw[An (by omega)]<;>rfl
 have hge':m.Chans.length<=k:=by have:=A0 hge;omega
 have ec:IY m=-1:=Ip (f:=fun i=>inP m.Shapes.length (m.Chans.getD i 0)) fun i hi=>hI i (by omega)
 rw[ec,show decide ((0:Int)<=-1)=false from rfl,Ak0]at hR
 rw[t3]
 refine⟨fun h4=>Mw (by rw[h4,Ak4]at hR;exact hR),fun h4=>⟨⟨by omega,by omega,by omega⟩,?_⟩⟩
 rw[h4,Ak0]at hR
 clear hI next
 have hnn:((m.Exprs.length:Int).toNat)=(Bg m).length:=by simp[Bg]
 have hnl:(Bg m).length=m.Exprs.length:=by simp[Bg]
 refine AA.le (l':=[(0,tpM m),(4,.bp 0 0),(10,.ow 1 0 (Bg m).length),(116,Aa m.Exprs.length),(117,Aa 0)]) (hs':=[.box (Ag m),.arr true 0 (Bg m).length 1 (HH (Bg m))]) ?_ ?_ ?_
 ·rw[hnn];exact AO _
 ·rw[hnn]
  refine⟨Ob.le_refl _,AlM fun i hi=>AQ ?_,trivial⟩
  have:(Bg m).getD i false=false:=by
   have hi':i<m.Exprs.length:=by rw[← hnl];exact hi
   simp[Bg,List.getD,hi']
  show _=[Ac ((Bg m).getD i false)]
  rw[this]<;>rfl
 generalize hX:HY m=X at hR
 have fin:∀ {y:Int × Int},(bif decide (0<=X) then((3:Int),X) else(0,0))=y->y=R:=fun h=>by rw[← h];exact hR
 refine Bh Al Am (fun g st=>∃ (k:Nat) (had:List Bool),k<=m.Exprs.length/\g=m.Exprs.length - k/\had.length=m.Exprs.length/\HZ m (m.Exprs.length - k) k had=X/\st=W9 m had k) (by kernel_rfl) (by kernel_rfl) ⟨_,Up.of ⟨0,Bg m,Alc _,rfl,hnl,hX,rfl⟩⟩ ?_
 rintro g st ⟨k,had,hk,rfl,hhl,hr,rfl⟩
 refine Alu (Um _ _ m had k _) ⟨fun hlt=>?_,fun hge=>Mw (fin ?_)⟩
 ·have hlt':k<m.Exprs.length:=by have:=AV hlt;omega
  have hto:(k:Int).toNat=k:=by omega
  rw[hto]
  have hwx:Oi (m.Exprs.getD k default):=hw.Exprs.2 _ (Av hlt')
  rw[show m.Exprs.length - k=(m.Exprs.length - (k+1))+1 by omega]at hr
  unfold HZ at hr
  refine⟨EN m k,AcW (by omega) (by omega) (by unfold Aw;rw[hto];exact hwx),fun hy=>Mw (fin ?_),fun hy=>⟨⟨by omega,by omega⟩,Ci (m.Exprs.getD k default),Il hwx.Args.1 hwx.V.Dims.1,?_⟩⟩
  ·rw[show EN m k=false by simpa using hy,Ak0]at hr
   rw[← hr,show decide ((0:Int)<=(k:Int))=true by simp,Ak4]
  ·have hye:EN m k=true:=by simpa using hy
   rw[hye,Ak4]at hr
   have hin:=ZQ hye
   have hhlen:=Vk hwx.Args.1 hwx.V.Dims.1
   unfold Aw at hin
   rw[hto]at hin
   generalize Ci (m.Exprs.getD k default)=l at hin hhlen hr ⊢
   generalize ho:AcJ had l=o at hr
   refine Bh Al Am (fun g st=>∃ (j:Nat) (had':List Bool),j<=l.length/\g=l.length - j/\had'.length=m.Exprs.length/\AcJ had' (l.drop j)=o/\st=W8 m had' k l j) (by kernel_rfl) (by kernel_rfl) ⟨_,Up.of ⟨0,had,Alc _,rfl,hhl,ho,rfl⟩⟩ ?_
   rintro g st ⟨j,had',hj,rfl,hhl',hq,rfl⟩
   refine Alu (Ul _ _ m had' k l j _ _) ⟨fun hlt2=>?_,fun hge2=>?_⟩
   ·have hlt2':j<l.length:=by have:=AV hlt2;omega
    have hto2:(j:Int).toNat=j:=by omega
    rw[hto2]
    have hpi:=hin _ (Av (d:=0) hlt2')
    rw[B8 (d:=0) hlt2']at hq
    generalize l.getD j 0=p at hpi hq ⊢
    unfold AcJ at hq
    refine⟨⟨by omega,by omega⟩,⟨by omega,by omega⟩,fun hy=>Mw (fin ?_),fun hy=>⟨⟨by omega,by omega⟩,l.length - (j+1),by omega,?_⟩⟩
    ·rw[hy,Ak4]at hq
     rw[← hq]at hr
     rw[← hr,show decide ((0:Int)<=(k:Int))=true by simp,Ak4]
    ·rw[hy,Ak0]at hq
     have hsl:(had'.set p.toNat true).length=had'.length:=by simp
     rw[An (by omega)]
     refine Up.mk (l':=[(0,tpM m),(4,.bp 0 0),(10,.ow 1 0 (had'.set p.toNat true).length),(11,Aa k),(116,Aa m.Exprs.length),(117,Aa k),(130,Ad true l),(131,Aa l.length),(132,Aa ((j+1:Nat):Int))])
      (hs':=[.box (Ag m),.arr true 0 (had'.set p.toNat true).length 1 (HH (had'.set p.toNat true))]) ?_ ?_ ⟨j+1,had'.set p.toNat true,by omega,rfl,by rw[hsl];exact hhl',hq,rfl⟩
     ·rw[hsl];exact AO _
     ·rw[hsl]
      exact⟨Ob.le_refl _,AlM fun i hi=>AQ (SQ hi),trivial⟩
   ·have hge2':l.length<=j:=by have:=A0 hge2;omega
    rw[Amp hge2']at hq
    unfold AcJ at hq
    rw[← hq]at hr
    rw[An (by omega)]
    exact⟨m.Exprs.length - (k+1),by omega,Up.of ⟨k+1,had',by omega,rfl,hhl',hr,rfl⟩⟩
 ·have hge':m.Exprs.length<=k:=by have:=A0 hge;omega
  rw[show m.Exprs.length - k=0 by omega]at hr
  unfold HZ at hr
  rw[← hr]<;>rfl
theorem Aky (a b:Int)(x:Bool):(bif a==b then !x else false)=(decide (a=b)&&!x):=by rw[ieq,A6]
theorem JL (m:D.Model)(k:Nat):D8 m k=(bif bif bif bif !(Di (m.Procs.getD k default)) then true else !(EB (m.Procs.getD k default)) then true else decide ((m.Procs.getD k default).Provided<(-1:Int)) then true else decide ((m.Procs.getD k default).Provided>=(m.Exprs.length:Int)) then true else bif (k:Int)==m.Claim then !(E6 (m.Procs.getD k default)) else false):=by
 unfold D8
 simp only[Aky,A3,Amb]
theorem Acp {m:D.Model}{k:Nat}(hk:k<m.Procs.length):EL m (k+1)=EL m k+(m.Procs.getD k default).Active:=by
 unfold EL
 rw[H7 (d:=default) hk,AmT,List.sum_append]
 simp
theorem SB {m:D.Model}(hw:Ay m)(h:¬ 0<(CU m).1):Hp m:=by
 refine⟨hw,Vv ?_⟩
 have hx:-1<=HY m:=by
  unfold HY
  have:∀ (g i:Nat) (had:List Bool),-1<=HZ m g i had:=by
   intro g
   induction g with
   | zero=>intro i had;unfold HZ;omega
   | succ g ih =>
    intro i had
    unfold HZ
    cases EN m i with
    | false=>simp only[Ak0];omega
    | true =>
     simp only[Ak4]
     split
     ·exact ih _ _
     ·omega
  exact this _ _ _
 refine Alt fun hn=>h ?_
 unfold CU
 generalize (decide (128<m.Globals.length)||!decide (m.Init.length=m.Globals.length))=b1
 generalize decide (0<=Fm m.Globals m.Init)=b2
 generalize (decide (32<m.Shapes.length)||decide (32<m.Chans.length))=b3
 generalize decide (0<=Gt m)=b4
 generalize decide (0<=IY m)=b5
 generalize (decide (m.Procs.length<1)||(decide (16<m.Procs.length)||(decide (m.Claim < -1)||(decide ((m.Procs.length:Int)<=m.Claim)||decide (4096<m.Exprs.length)))))=b6
 rw[show decide (0<=HY m)=true by simp;omega]
 cases b1<;>cases b2<;>cases b3<;>cases b4<;>cases b5<;>cases b6<;>simp
theorem YA {m:D.Model}(hw:Ay m):Ai Tryz.prog 36 [] [.agg (Ag m)] [] (.tup [Aa (IX m).1,Aa (IX m).2.1,Aa (IX m).2.2]):=by
 have hP:=hw.Procs.1
 refine Ah Al Am Tryz.func36 (by kernel_rfl) rfl (Adc _ _ _ m) ⟨CU m,Uk hw,?_⟩
 generalize hR:IX m=R
 unfold IX at hR
 refine⟨fun h=>Vb (by rw[show decide (0<(CU m).1)=true from h,Ak4]at hR;exact hR),fun h=>?_⟩
 have hready:=SB hw (Alk h)
 rw[show decide (0<(CU m).1)=false from h,Ak0]at hR
 refine AK Al Am m.Procs.length (fun k=>L7 m (EL m k) k) (fun k=>(∀ i,i<k->(!D8 m i)=true)/\0<=EL m k/\EL m k<=16*k) (by kernel_rfl) (by kernel_rfl) ⟨fun i hi=>by omega,by simp[EL],by simp[EL]⟩ ?_
 intro k hk ⟨hI,hm0,hm1⟩ J next
 refine Alu (YC _ _ _ m (EL m k) k J) ⟨fun hlt=>?_,fun hge=>?_⟩
 ·have hlt':k<m.Procs.length:=by have:=AV hlt;omega
  have hto:(k:Int).toNat=k:=by omega
  rw[hto]
  have hwp:=hw.Procs.2 _ (Av (d:=default) hlt')
  refine⟨⟨by omega,by omega⟩,Di (m.Procs.getD k default),Yi hwp,EB (m.Procs.getD k default),fun _=>Yc hwp,E6 (m.Procs.getD k default),fun _=>Tw hwp,?_⟩
  rw[← JL]
  refine⟨fun hy=>Vb ?_,fun hy=>?_⟩
  ·have e:E0 m=k:=Io (f:=fun i=>!D8 m i) hI hlt' (by rw[hy]<;>rfl)
   rw[e,show decide ((0:Int)<=(k:Int))=true by simp,Ak4]at hR
   exact hR
  ·have hfr:Di (m.Procs.getD k default)=true:=by
    rw[JL]at hy
    cases hq:Di (m.Procs.getD k default) with
    | true=>rfl
    | false=>rw[hq]at hy;simp at hy
   have hac:0<=(m.Procs.getD k default).Active/\(m.Procs.getD k default).Active<=16:=by
    unfold Di at hfr
    simp only[Ak2,Ak5]at hfr
    omega
   have hms:=Acp hlt'
   refine next _ hlt' ⟨fun i hi=>?_,by omega,by omega⟩ (Up.of ?_)
   ·rcases AlD.1 hi with h | rfl
    ·exact hI i h
    ·rw[hy]<;>rfl
   ·rw[hms,An (by omega),Bt (n:=EL m k+_) (by omega) (by omega)]<;>rfl
 ·have hge':k=m.Procs.length:=by have:=A0 hge;omega
  subst hge'
  have e:E0 m=-1:=Ip (f:=fun i=>!D8 m i) fun i hi=>hI i (by omega)
  rw[e,show decide ((0:Int)<=-1)=false from rfl,Ak0]at hR
  refine⟨fun h2=>Vb (by rw[show decide (16<EL m m.Procs.length)=true from h2,Ak4]at hR;exact hR),fun h2=>?_⟩
  rw[show decide (16<EL m m.Procs.length)=false from h2,Ak0]at hR
  have hpv:∀ i,i<m.Procs.length->(m.Procs.getD i default).Provided<m.Exprs.length:=fun i hi=>by
   have:=hI i hi
   rw[JL]at this
   simp only[A3,Amy,Aln,AlB]at this
   omega
  clear hI next
  refine AK Al Am m.Procs.length (fun k=>L6 m k) (fun k=>∀ i:Nat,i<k->DQ m i=true) (by kernel_rfl) (by kernel_rfl) (fun i hi=>by omega) ?_
  intro k hk hI J next
  refine Alu (YB _ _ _ m k J) ⟨fun hlt=>?_,fun hge=>Vb ?_⟩
  ·have hlt':k<m.Procs.length:=by have:=AV hlt;omega
   refine⟨DQ m k,AbY hready (by omega) (by omega) (hpv _ (by omega)),fun hy=>Vb ?_,fun hy=>next _ hlt' (fun i hi=>?_) (Up.of ?_)⟩
   ·have e:JB m=k:=Io (f:=fun i:Nat=>DQ m i) hI hlt' (by simpa using hy)
    rw[e,show decide ((0:Int)<=(k:Int))=true by simp,Ak4]at hR
    exact hR
   ·rcases AlD.1 hi with h | rfl
    ·exact hI i h
    ·simpa using hy
   ·rw[An (by omega)]<;>rfl
  ·have hge':m.Procs.length<=k:=by have:=A0 hge;omega
   have e:JB m=-1:=Ip (f:=fun i:Nat=>DQ m i) fun i hi=>hI i (by omega)
   rw[e,show decide ((0:Int)<=-1)=false from rfl,Ak0]at hR
   exact hR
def KV (fz:Bool)(x:D.State):List VV:=[Ad true x.Globals,AE fz x.Chans,Au fz x.Procs,Aa x.Last,Aa x.Alone,Aa x.Claim]
def Bx (t:List D.Type)(l:List Int):Bool:=decide (t.length=l.length)&&Ed l.length fun i=>DD (t.getD i default) (l.getD i 0)
def BP (m:D.Model)(k:Int):D.Shape:=m.Shapes.getD k.toNat default
def A8 (m:D.Model)(k:Int):D.Proc:=m.Procs.getD k.toNat default
def Dd (m:D.Model)(c:D.Chan):Bool:=inP m.Shapes.length c.Shape&&decide ((c.Queue.length:Int)<=(BP m c.Shape).Room)&&Ed c.Queue.length fun i=>Bx (BP m c.Shape).Fields (c.Queue.getD i [])
def A2 (m:D.Model)(p:D.Process):Bool:=DY m p.Type_&&inP (A8 m p.Type_).Locs.length p.Loc&&decide (p.Prio=(A8 m p.Type_).Prio)&&Bx (A8 m p.Type_).Frame p.Frame
def KT (m:D.Model)(s:D.State):Bool:=Bx m.Globals s.Globals&&decide (s.Chans.length<=32)&&decide (s.Procs.length<=16)&&decide (0<=s.Last)&&decide (s.Last<16)&&decide (-1<=s.Alone)&&decide (s.Alone<s.Procs.length)
def Gy (m:D.Model)(s:D.State):Bool:=bif decide (m.Claim<0) then decide (s.Claim=-1) else inP (A8 m m.Claim).Locs.length s.Claim
def DG (m:D.Model)(s:D.State):Bool:=KT m s&&(Ed s.Chans.length fun i=>Dd m (s.Chans.getD i default))&&(Ed s.Procs.length fun i=>A2 m (s.Procs.getD i default))&&Gy m s
def Dq (m:D.Model):Bool:=decide ((IX m).1=0)
def Cf (m:D.Model)(s:D.State):Int:=bif Dq m then(bif DG m s then 0 else 41) else 40
structure Lim (m:D.Model):Prop where
 room:∀ k:Int,0<=k->k<m.Shapes.length->(BP m k).Room<=16
 locs:∀ k:Int,0<=k->k<m.Procs.length->(A8 m k).Locs.length<=256
 one:1<=m.Procs.length
 clp:m.Claim<m.Procs.length
theorem Cy {m:D.Model}(h:Dq m=true):CU m=(0,0)/\E0 m=-1/\JB m=-1:=by
 unfold Dq IX at h
 have h1:∀ n (f:Nat->Bool),-1<=JV n f:=fun n f=>AhO
 have hf:=h1 m.Procs.length fun i=>!D8 m i
 have hp:=h1 m.Procs.length fun i:Nat=>DQ m i
 cases b1:decide (0<(CU m).1) with
 | true=>rw[b1,Ak4]at h;simp at h
 | false =>
  rw[b1,Ak0]at h
  cases b2:decide (0<=E0 m) with
  | true=>rw[b2,Ak4]at h;simp at h
  | false =>
   rw[b2,Ak0]at h
   cases b3:decide (16<EL m m.Procs.length) with
   | true=>rw[b3,Ak4]at h;simp at h
   | false =>
    rw[b3,Ak0]at h
    cases b4:decide (0<=JB m) with
    | true=>rw[b4,Ak4]at h;simp at h
    | false =>
     have:=Alk b2
     have:=Alk b4
     refine⟨?_,by show JV _ _=-1;unfold E0 at *;omega,by show JV _ _=-1;unfold JB at *;omega⟩
     have b1:=Alk b1
     unfold CU at b1 ⊢
     generalize (decide (128<m.Globals.length)||!decide (m.Init.length=m.Globals.length))=c1 at b1 ⊢
     generalize decide (0<=Fm m.Globals m.Init)=c2 at b1 ⊢
     generalize (decide (32<m.Shapes.length)||decide (32<m.Chans.length))=c3 at b1 ⊢
     generalize decide (0<=Gt m)=c4 at b1 ⊢
     generalize decide (0<=IY m)=c5 at b1 ⊢
     generalize (decide (m.Procs.length<1)||(decide (16<m.Procs.length)||(decide (m.Claim < -1)||(decide ((m.Procs.length:Int)<=m.Claim)||decide (4096<m.Exprs.length)))))=c6 at b1 ⊢
     generalize decide (0<=HY m)=c7 at b1 ⊢
     cases c1<;>cases c2<;>cases c3<;>cases c4<;>cases c5<;>cases c6<;>cases c7<;>simp at b1 ⊢
structure Aif (m:D.Model):Prop where
 globals:m.Globals.length<=128
 init:m.Init.length=m.Globals.length
 types:Fm m.Globals m.Init<0
 shapes:m.Shapes.length<=32
 chans:m.Chans.length<=32
 shape:∀ i,i<m.Shapes.length->D5 (m.Shapes.getD i default)=true
 chan:∀ i,i<m.Chans.length->inP m.Shapes.length (m.Chans.getD i 0)=true
 procs:1<=m.Procs.length/\m.Procs.length<=16
 claim:-1<=m.Claim/\m.Claim<m.Procs.length
 exprs:m.Exprs.length<=4096
theorem Pv {m:D.Model}(h:CU m=(0,0)):Aif m:=by
 unfold CU at h
 cases c1:(decide (128<m.Globals.length)||!decide (m.Init.length=m.Globals.length)) with
 | true=>rw[c1,Ak4]at h;simp at h
 | false =>
 cases c2:decide (0<=Fm m.Globals m.Init) with
 | true=>rw[c1,c2,Ak0,Ak4]at h;simp at h
 | false =>
 cases c3:(decide (32<m.Shapes.length)||decide (32<m.Chans.length)) with
 | true=>rw[c1,c2,c3,Ak0,Ak0,Ak4]at h;simp at h
 | false =>
 cases c4:decide (0<=Gt m) with
 | true=>rw[c1,c2,c3,c4,Ak0,Ak0,Ak0,Ak4]at h;simp at h
 | false =>
 cases c5:decide (0<=IY m) with
 | true=>rw[c1,c2,c3,c4,c5,Ak0,Ak0,Ak0,Ak0,Ak4]at h;simp at h
 | false =>
 cases c6:(decide (m.Procs.length<1)||(decide (16<m.Procs.length)||(decide (m.Claim < -1)||(decide ((m.Procs.length:Int)<=m.Claim)||decide (4096<m.Exprs.length))))) with
 | true=>rw[c1,c2,c3,c4,c5,c6,Ak0,Ak0,Ak0,Ak0,Ak0,Ak4]at h;simp at h
 | false =>
 simp only[Aln,AlB,AmX,Ak5]at c1 c2 c3 c4 c5 c6
 exact⟨by omega,c1.2,by omega,by omega,by omega,G5 (f:=fun i=>D5 (m.Shapes.getD i default)) (by unfold Gt at c4;omega),G5 (f:=fun i=>inP m.Shapes.length (m.Chans.getD i 0)) (by unfold IY at c5;omega),by omega,by omega,by omega⟩
theorem DT {m:D.Model}(h:E0 m=-1):∀ i,i<m.Procs.length->Di (m.Procs.getD i default)=true/\EB (m.Procs.getD i default)=true:=fun i hi=>by
 have:=G5 (f:=fun i=>!D8 m i) (by unfold E0 at h;omega) i hi
 unfold D8 at this
 simp only[Amy,Aln,AmX]at this
 exact⟨this.1,this.2.1⟩
theorem GU {m:D.Model}(h:Dq m=true):Lim m:=by
 obtain⟨h1,h2,_⟩:=Cy h
 have ht:=Pv h1
 refine⟨fun k h0 hk=>?_,fun k h0 hk=>?_,ht.procs.1,ht.claim.2⟩
 ·have:=ht.shape k.toNat (by omega)
  unfold D5 at this
  simp only[Ak2,Ak5]at this
  exact this.1.1.1.2
 ·have:=(DT h2 k.toNat (by omega)).2
  unfold EB at this
  simp only[Ak2,Ak5]at this
  exact this.1.1.1.2
structure Fit (s:D.State):Prop where
 g:s.Globals.length<=128
 c:s.Chans.length<=32
 q:∀ c∈s.Chans,c.Queue.length<=16/\∀ x∈c.Queue,x.length<=8
 p:s.Procs.length<=16
 f:∀ p∈s.Procs,p.Frame.length<=128
theorem EI {t:List D.Type}{l:List Int}(h:Bx t l=true):l.length=t.length:=by
 unfold Bx at h
 simp only[Ak2,Ak5]at h
 exact h.1.symm
theorem Tt {m:D.Model}{s:D.State}(hmay:Dq m=true)(h:DG m s=true):Fit s:=by
 have hm:=GU hmay
 obtain⟨ht1,ht2,_⟩:=Cy hmay
 have ht:=Pv ht1
 unfold DG at h
 simp only[Ak2]at h
 obtain⟨⟨⟨h1,h2⟩,h3⟩,h4⟩:=h
 unfold KT at h1
 simp only[Ak2,Ak5]at h1
 obtain⟨⟨⟨⟨⟨⟨g1,g2⟩,g3⟩,g4⟩,g5⟩,g6⟩,g7⟩:=h1
 refine⟨?_,g2,fun c hc=>?_,g3,fun p hp=>?_⟩
 ·rw[EI g1];exact ht.globals
 ·have h:=(Ck (d:=default) (f:=fun c=>Dd m c)).1 h2 c hc
  unfold Dd at h
  simp only[Ak2,Ak5]at h
  have hi:=CC.1 h.1.1
  have hr:=hm.room _ hi.1 hi.2
  refine⟨by omega,fun x hx=>?_⟩
  have hq:=(Ck (d:=[]) (f:=fun x=>Bx (BP m c.Shape).Fields x)).1 h.2 x hx
  rw[EI hq]
  have:=ht.shape c.Shape.toNat (by omega)
  unfold D5 at this
  simp only[Ak2,Ak5]at this
  exact this.1.2
 ·have h:=(Ck (d:=default) (f:=fun c=>A2 m c)).1 h3 p hp
  unfold A2 DY at h
  simp only[Ak2,Ak5]at h
  rw[EI h.2]
  have:=(DT ht2 p.Type_.toNat (by omega)).1
  unfold Di at this
  simp only[Ak2,Ak5]at this
  exact this.1.1.1.1.1.1.1.1
def Ld (f:FuncId):Shp:=bif Nat.beq f 38 then Abo else Bj f
def Nu : Ann:={ keep:=fun
  | [0,1,0,1,1]=>[0,12,13,14]
  | _=>[] }
def J7 : Ann:={ keep:=fun
  | [0,1,0,1,1]=>[2,3,32,33,34]
  | _=>[] }
def G8 : Ann:={ keep:=fun
  | [0,1,0,1,1]=>[2,3,51,52,53]
  | [0,1,0,1,1,1]=>[2,3,63,64,65]
  | _=>[] }
def On (t:List D.Type)(l:List Int)(k:Int):St:=Aq [(0,AJ true t),(12,Ad true l),(13,Aa l.length),(14,Aa k)] []
def Kk (m:D.Model)(c:D.Chan)(k:Int):St:=Aq [(2,.bp 0 0),(3,.bp 1 0),(32,BI true c.Queue),(33,Aa c.Queue.length),(34,Aa k)] [.box (Ag m),.box (AB c)]
def OA (m:D.Model)(s:D.State)(k:Int):St:=Aq [(2,.bp 0 0),(3,.bp 1 0),(51,AE false s.Chans),(52,Aa s.Chans.length),(53,Aa k)] [.box (Ag m),.box (KV false s)]
def Oz (m:D.Model)(s:D.State)(k:Int):St:=Aq [(2,.bp 0 0),(3,.bp 1 0),(63,Au false s.Procs),(64,Aa s.Procs.length),(65,Aa k)] [.box (Ag m),.box (KV false s)]
set_option maxRecDepth 100000
theorem AaT (b:Bool)(t:List D.Type)(l:List Int):(fc Ld Nu Tryz.f76 [] (Ac b)).goal (St.init [] [AJ true t,Ad true l]) =
  (BB ((↑t.length:Int) != (↑l.length:Int)) (LQ (Ac false) (Ac b)) (AA (fc Ld Nu Tryz.f76 [] (Ac b)) [1,1,0,1,0] (On t l (0:Int)))):=by kernel_rfl
theorem VN (b:Bool)(m:D.Model)(c:D.Chan):(fc Ld J7 Tryz.f77 [] (Ac b)).goal (St.init [] [.agg (Ag m),.agg (AB c)]) =
  (((true&&(bif decide (c.Shape<0) then true else decide (c.Shape>=(↑m.Shapes.length:Int)))==false)=true->inX c.Shape m.Shapes.length)/\BB (bif bif decide (c.Shape<0) then true else decide (c.Shape>=(↑m.Shapes.length:Int)) then true else decide ((↑c.Queue.length:Int) > (m.Shapes.getD c.Shape.toNat default).Room)) (LQ (Ac false) (Ac b)) (AA (fc Ld J7 Tryz.f77 [] (Ac b)) [1,1,0,1,0] (Kk m c (0:Int)))):=by kernel_rfl
theorem UO (b:Bool)(m:D.Model)(p:D.Process):(fc Ld AT Tryz.f78 [] (Ac b)).goal (St.init [] [.agg (Ag m),.agg (Ar p)]) =
  (BB (bif bif decide (p.Type_<0) then true else decide (p.Type_>=(↑m.Procs.length:Int)) then true else p.Type_==m.Claim) (LQ (Ac false) (Ac b)) (inX p.Type_ m.Procs.length/\∃ (y:Bool),((true&&(bif bif decide (p.Loc>=0) then decide (p.Loc<(↑(m.Procs.getD p.Type_.toNat default).Locs.length:Int)) else false then p.Prio==(m.Procs.getD p.Type_.toNat default).Prio else false)==true)=true->VC 76 [AJ true (m.Procs.getD p.Type_.toNat default).Frame,Ad true p.Frame] (Ac y))/\LQ (Ac (bif bif bif decide (p.Loc>=0) then decide (p.Loc<(↑(m.Procs.getD p.Type_.toNat default).Locs.length:Int)) else false then p.Prio==(m.Procs.getD p.Type_.toNat default).Prio else false then y else false)) (Ac b))):=by kernel_rfl
theorem W6 (b:Bool)(m:D.Model)(s:D.State):(fc Ld G8 Tryz.f54 [] (Ac b)).goal (St.init [] [.agg (Ag m),.agg (KV false s)]) =
  (∃ (y:Bool),VC 76 [AJ true m.Globals,Ad true s.Globals] (Ac y)/\BB (bif bif bif bif bif bif !y then true else decide ((↑s.Chans.length:Int) > 32) then true else decide ((↑s.Procs.length:Int) > 16) then true else decide (s.Last<0) then true else decide (s.Last>=16) then true else decide (s.Alone<(-1:Int)) then true else decide (s.Alone>=(↑s.Procs.length:Int))) (LQ (Ac false) (Ac b)) (AA (fc Ld G8 Tryz.f54 [] (Ac b)) [1,1,0,1,0] (OA m s (0:Int)))):=by kernel_rfl
theorem Ag9 (b:Bool)(m:D.Model):(fc Ld AT Tryz.f23 [] (Ac b)).goal (St.init [] [.agg (Ag m)]) =
  (∃ (y:Int × Int × Int),VC 36 [VV.agg (Ag m)] (VV.tup [Aa y.fst,Aa y.snd.fst,Aa y.snd.snd])/\LQ (Ac (y.fst==0)) (Ac b)):=by kernel_rfl
theorem Uu (r:Int)(m:D.Model)(s:D.State):(fc Ld AT Tryz.f38 [] (Aa r)).goal (St.init [] [.agg (Ag m),.agg (Ae s)]) =
  (∃ (y:Bool),VC 23 [VV.agg (Ag m)] (Ac y)/\BB (!y) (LQ (Aa 40) (Aa r)) (∃ (y:Bool),VC 54 [VV.agg (Ag m),VV.agg (Ae s)] (Ac y)/\BB (!y) (LQ (Aa 41) (Aa r)) (LQ (Aa 0) (Aa r)))):=by kernel_rfl
theorem WN (b:Bool)(t:List D.Type)(l:List Int)(k:Int)(J:St->Prop):((fc Ld Nu Tryz.f76 [] (Ac b)).loop [1,1,0,1,0] J).goal (On t l k) =
  (BB (decide (k<(↑l.length:Int))) (inX k l.length/\inX k t.length/\∃ (y:Bool),VC 107 [VV.agg (Dx (t.getD k.toNat default)),Aa (l.getD k.toNat 0)] (Ac y)/\BB (!y) (LQ (Ac false) (Ac b)) (J (On t l (IntKind.i64.wrap (k+(1:Int)))))) (LQ (Ac true) (Ac b))):=by kernel_rfl
theorem Tz (b:Bool)(m:D.Model)(c:D.Chan)(k:Int)(J:St->Prop):((fc Ld J7 Tryz.f77 [] (Ac b)).loop [1,1,0,1,0] J).goal (Kk m c k) =
  (BB (decide (k<(↑c.Queue.length:Int))) (inX k c.Queue.length/\inX c.Shape m.Shapes.length/\∃ (y:Bool),VC 76 [AJ true (m.Shapes.getD c.Shape.toNat default).Fields,Ad true (c.Queue.getD k.toNat [])] (Ac y)/\BB (!y) (LQ (Ac false) (Ac b)) (J (Kk m c (IntKind.i64.wrap (k+(1:Int)))))) (LQ (Ac true) (Ac b))):=by kernel_rfl
theorem Ut (b:Bool)(m:D.Model)(s:D.State)(k:Int)(J:St->Prop):((fc Ld G8 Tryz.f54 [] (Ac b)).loop [1,1,0,1,0] J).goal (OA m s k) =
  (BB (decide (k<(↑s.Chans.length:Int))) (inX k s.Chans.length/\∃ (y:Bool),VC 77 [VV.agg (Ag m),VV.agg (AB (s.Chans.getD k.toNat default))] (Ac y)/\BB (!y) (LQ (Ac false) (Ac b)) (J (OA m s (IntKind.i64.wrap (k+(1:Int)))))) (AA (fc Ld G8 Tryz.f54 [] (Ac b)) [1,1,1,0,1,0] (Oz m s (0:Int)))):=by kernel_rfl
theorem Us (b:Bool)(m:D.Model)(s:D.State)(k:Int)(J:St->Prop):((fc Ld G8 Tryz.f54 [] (Ac b)).loop [1,1,1,0,1,0] J).goal (Oz m s k) =
  (BB (decide (k<(↑s.Procs.length:Int))) (inX k s.Procs.length/\∃ (y:Bool),VC 78 [VV.agg (Ag m),VV.agg (Ar (s.Procs.getD k.toNat default))] (Ac y)/\BB (!y) (LQ (Ac false) (Ac b)) (J (Oz m s (IntKind.i64.wrap (k+(1:Int)))))) (BB (decide (m.Claim<0)) (LQ (Ac (s.Claim==(-1:Int))) (Ac b)) (((true&&decide (s.Claim>=0)==true)=true->inX m.Claim m.Procs.length)/\LQ (Ac (bif decide (s.Claim>=0) then decide (s.Claim<(↑(m.Procs.getD m.Claim.toNat default).Locs.length:Int)) else false)) (Ac b)))):=by kernel_rfl
end Go.Proofs.YtmdcknlpalfhhaaGreatDoor
namespace Go.Proofs.YtmdcknlpalfhhaaGreatDoor
open Go.RowKit
theorem ZL {xs ys:List VV}(hl:ys.length=xs.length)(h:∀ (j:Nat) x y,xs[j]?=some x->ys[j]?=some y->leS x y):leS (.agg xs) (.agg ys):=by
 intro w E m v hE hv
 obtain⟨vs,rfl,h1,h2⟩:=hv.agg_inv
 refine .agg (h1.trans hl.symm) fun j y hy=>?_
 have hj:j<xs.length:=by rw[← hl];exact(Ak3.1 hy).1
 exact h j _ y (Ald hj) hy w E m _ hE (h2 j _ (Ald hj))
theorem FM {k:Nat}{P:Nat->Prop}(hI:∀ i,i<k->P i)(h:P k):∀ i,i<k+1->P i:=fun i hi=>by
 rcases AlD.1 hi with h' | rfl
 ·exact hI i h'
 ·exact h
def Len (n:Nat):Prop:=n<=1099511627776
theorem La {t:List D.Type}{l:List Int}(hl:Len l.length):Ai Tryz.prog 76 [] [AJ true t,Ad true l] [] (Ac (Bx t l)):=by
 unfold Len at hl
 refine Ah Al Am Tryz.func76 (by kernel_rfl) rfl (AaT _ t l) ⟨fun h=>AG ?_,fun h=>?_⟩
 ·unfold Bx
  have:decide (t.length=l.length)=false:=by simp at h;simp;omega
  rw[this,Bool.false_and]
 ·have hlen:t.length=l.length:=by simp at h;omega
  have e:Bx t l=Ed l.length fun i=>DD (t.getD i default) (l.getD i 0):=by unfold Bx;rw[show decide (t.length=l.length)=true by simpa using hlen,AlV]
  rw[e]
  refine AK Al Am l.length (fun k=>On t l k) (fun k=>∀ i,i<k->DD (t.getD i default) (l.getD i 0)=true) (by kernel_rfl) (by kernel_rfl) (fun i hi=>by omega) ?_
  intro k hk hI J next
  refine Alu (WN _ t l k J) ⟨fun hlt=>?_,fun hge=>AG ?_⟩
  ·have hlt':k<l.length:=by have:=AV hlt;omega
   refine⟨⟨by omega,by omega⟩,⟨by omega,by omega⟩,DD (t.getD k default) (l.getD k 0),Nj _ _,fun hy=>AG ?_,fun hy=>next _ hlt' (FM hI (by simpa using hy)) (Up.of ?_)⟩
   ·exact(De (f:=fun i=>DD (t.getD i default) (l.getD i 0)) hlt' (by simpa using hy)).symm
   ·rw[An (by omega)]<;>rfl
  ·have hge':l.length<=k:=by have:=A0 hge;omega
   exact(Bz.2 fun i hi=>hI i (by omega)).symm
structure YK (c:D.Chan):Prop where
 q:Len c.Queue.length
 m:∀ x∈c.Queue,Len x.length
theorem Ty {m:D.Model}{c:D.Chan}(hc:YK c):Ai Tryz.prog 77 [] [.agg (Ag m),.agg (AB c)] [] (Ac (Dd m c)):=by
 have hq:=hc.q
 unfold Len at hq
 refine Ah Al Am Tryz.func77 (by kernel_rfl) rfl (VN _ m c) ⟨fun h=>?_,fun h=>AG ?_,fun h=>?_⟩
 ·simp at h;omega
 ·symm;rw[AlZ];intro hcc
  unfold Dd at hcc
  simp only[Ak2,Ak5]at hcc
  have:=CC.1 hcc.1.1
  have hr:(BP m c.Shape).Room=(m.Shapes.getD c.Shape.toNat default).Room:=rfl
  rw[hr]at hcc
  generalize (m.Shapes.getD c.Shape.toNat default).Room=rm at h hcc
  simp at h;omega
 ·have hs:0<=c.Shape/\c.Shape<m.Shapes.length/\(c.Queue.length:Int)<=(BP m c.Shape).Room:=by
   have hr:(BP m c.Shape).Room=(m.Shapes.getD c.Shape.toNat default).Room:=rfl
   rw[hr]
   generalize (m.Shapes.getD c.Shape.toNat default).Room=rm at h ⊢
   simp at h;omega
  have e:Dd m c=Ed c.Queue.length fun i=>Bx (BP m c.Shape).Fields (c.Queue.getD i []):=by
   unfold Dd
   rw[CC.2 ⟨hs.1,hs.2.1⟩,show decide ((c.Queue.length:Int)<=(BP m c.Shape).Room)=true by simpa using hs.2.2]<;>rfl
  rw[e]
  refine AK Al Am c.Queue.length (fun k=>Kk m c k) (fun k=>∀ i,i<k->Bx (BP m c.Shape).Fields (c.Queue.getD i [])=true) (by kernel_rfl) (by kernel_rfl) (fun i hi=>by omega) ?_
  intro k hk hI J next
  refine Alu (Tz _ m c k J) ⟨fun hlt=>?_,fun hge=>AG ?_⟩
  ·have hlt':k<c.Queue.length:=by have:=AV hlt;omega
   refine⟨⟨by omega,by omega⟩,⟨hs.1,hs.2.1⟩,Bx (BP m c.Shape).Fields (c.Queue.getD k []),La (hc.m _ (Av hlt')),fun hy=>AG ?_,fun hy=>next _ hlt' (FM hI (by simpa using hy)) (Up.of ?_)⟩
   ·exact(De (f:=fun i=>Bx (BP m c.Shape).Fields (c.Queue.getD i [])) hlt' (by simpa using hy)).symm
   ·rw[An (by omega)]<;>rfl
  ·have hge':c.Queue.length<=k:=by have:=A0 hge;omega
   exact(Bz.2 fun i hi=>hI i (by omega)).symm
theorem S5 {m:D.Model}{p:D.Process}(hp:Len p.Frame.length):Ai Tryz.prog 78 [] [.agg (Ag m),.agg (Ar p)] [] (Ac (A2 m p)):=by
 have hpr:(A8 m p.Type_)=m.Procs.getD p.Type_.toNat default:=rfl
 refine Ah Al Am Tryz.func78 (by kernel_rfl) rfl (UO _ m p) ⟨fun h=>AG ?_,fun h=>⟨?_,Bx (A8 m p.Type_).Frame p.Frame,fun _=>La hp,AG ?_⟩⟩
 ·unfold A2 DY
  have:(decide (0<=p.Type_)&&decide (p.Type_<m.Procs.length)&&decide (p.Type_≠m.Claim))=false:=by
   rw[AlZ];intro hc;simp at hc h;omega
  rw[this]<;>rfl
 ·simp at h;omega
 ·unfold A2 DY inP
  have:(decide (0<=p.Type_)&&decide (p.Type_<m.Procs.length)&&decide (p.Type_≠m.Claim))=true:=by simp at h ⊢;omega
  rw[this,AlV,← hpr]
  simp only[ieq,A6,Amu]
structure A7 (s:D.State):Prop where
 g:Len s.Globals.length
 c:Len s.Chans.length
 p:Len s.Procs.length
 cs:∀ c∈s.Chans,YK c
 ps:∀ p∈s.Procs,Len p.Frame.length
theorem SD {m:D.Model}{s:D.State}(hs:A7 s)(hcl:m.Claim<m.Procs.length):Ai Tryz.prog 54 [] [.agg (Ag m),.agg (KV false s)] [] (Ac (DG m s)):=by
 have hc:=hs.c
 have hp:=hs.p
 unfold Len at hc hp
 have ht:(bif bif bif bif bif bif !(Bx m.Globals s.Globals) then true else decide ((s.Chans.length:Int) > 32) then true else decide ((s.Procs.length:Int) > 16) then true else decide (s.Last<0) then true else decide (s.Last>=16) then true else decide (s.Alone<(-1:Int)) then true else decide (s.Alone>=(s.Procs.length:Int)))=!(KT m s):=by
  unfold KT
  cases Bx m.Globals s.Globals
  ·rfl
  ·rw[Alq];simp;omega
 refine Ah Al Am Tryz.func54 (by kernel_rfl) rfl (W6 _ m s) ⟨Bx m.Globals s.Globals,La hs.g,?_⟩
 rw[ht]
 have e0:DG m s=(KT m s&&(Ed s.Chans.length fun i=>Dd m (s.Chans.getD i default))&&(Ed s.Procs.length fun i=>A2 m (s.Procs.getD i default))&&Gy m s):=rfl
 generalize DG m s=b at e0 ⊢
 refine⟨fun h=>AG ?_,fun h=>?_⟩
 ·rw[show KT m s=false by simpa using h]at e0;rw[e0]<;>rfl
 rw[show KT m s=true by simpa using h,AlV]at e0
 refine AK Al Am s.Chans.length (fun k=>OA m s k) (fun k=>∀ i,i<k->Dd m (s.Chans.getD i default)=true) (by kernel_rfl) (by kernel_rfl) (fun i hi=>by omega) ?_
 intro k hk hI J next
 refine Alu (Ut _ m s k J) ⟨fun hlt=>?_,fun hge=>?_⟩
 ·have hlt':k<s.Chans.length:=by have:=AV hlt;omega
  refine⟨⟨by omega,by omega⟩,Dd m (s.Chans.getD k default),Ty (hs.cs _ (Av hlt')),fun hy=>AG ?_,fun hy=>next _ hlt' (FM hI (by simpa using hy)) (Up.of ?_)⟩
  ·rw[De (f:=fun i=>Dd m (s.Chans.getD i default)) hlt' (by simpa using hy)]at e0
   rw[e0]<;>rfl
  ·rw[An (by omega)]<;>rfl
 have hge':s.Chans.length<=k:=by have:=A0 hge;omega
 rw[(Bz (n:=s.Chans.length) (f:=fun i=>Dd m (s.Chans.getD i default))).2 fun i hi=>hI i (by omega),AlV]at e0
 clear hI next
 refine AK Al Am s.Procs.length (fun k=>Oz m s k) (fun k=>∀ i,i<k->A2 m (s.Procs.getD i default)=true) (by kernel_rfl) (by kernel_rfl) (fun i hi=>by omega) ?_
 intro k hk hI J next
 refine Alu (Us _ m s k J) ⟨fun hlt=>?_,fun hge=>?_⟩
 ·have hlt':k<s.Procs.length:=by have:=AV hlt;omega
  refine⟨⟨by omega,by omega⟩,A2 m (s.Procs.getD k default),S5 (hs.ps _ (Av hlt')),fun hy=>AG ?_,fun hy=>next _ hlt' (FM hI (by simpa using hy)) (Up.of ?_)⟩
  ·rw[De (f:=fun i=>A2 m (s.Procs.getD i default)) hlt' (by simpa using hy)]at e0
   rw[e0]<;>rfl
  ·rw[An (by omega)]<;>rfl
 have hge':s.Procs.length<=k:=by have:=A0 hge;omega
 rw[(Bz (n:=s.Procs.length) (f:=fun i=>A2 m (s.Procs.getD i default))).2 fun i hi=>hI i (by omega),AlV]at e0
 unfold Gy at e0
 refine⟨fun h2=>AG ?_,fun h2=>⟨fun _=>⟨?_,hcl⟩,AG ?_⟩⟩
 ·rw[h2,Ak4]at e0;rw[e0,ieq]
 ·have:=Alk h2;omega
 ·rw[h2,Ak0]at e0
  rw[e0,A6]<;>rfl
theorem Ur {m:D.Model}{s:D.State}(hs:A7 s)(hcl:m.Claim<m.Procs.length):Ai Tryz.prog 54 [] [.agg (Ag m),.agg (Ae s)] [] (Ac (DG m s)):=by
 refine(SD hs hcl).frz rfl fun j x y hx hy=>?_
 match j,hx,hy with
 | 0,hx,hy=>simp only[Ala,Ak1]at hx hy;subst hx hy;exact Dt _
 | 1,hx,hy =>
  simp only[AlN,Ala,Ak1]at hx hy
  subst hx hy
  refine ZL rfl fun j x y hx hy=>?_
  match j,hx,hy with
  | 0,hx,hy=>simp only[Ae,KV,Ala,Ak1]at hx hy;subst hx hy;exact Dt _
  | 1,hx,hy=>simp only[Ae,KV,AlN,Ala,Ak1]at hx hy;subst hx hy;exact Qd
  | 2,hx,hy=>simp only[Ae,KV,AlN,Ala,Ak1]at hx hy;subst hx hy;exact Qd
  | 3,hx,hy=>simp only[Ae,KV,AlN,Ala,Ak1]at hx hy;subst hx hy;exact Dt _
  | 4,hx,hy=>simp only[Ae,KV,AlN,Ala,Ak1]at hx hy;subst hx hy;exact Dt _
  | 5,hx,hy=>simp only[Ae,KV,AlN,Ala,Ak1]at hx hy;subst hx hy;exact Dt _
  | j+6,hx,hy=>simp[Ae]at hx
 | j+2,hx,hy=>simp at hx
theorem Mr {m:D.Model}(hw:Ay m):Ai Tryz.prog 23 [] [.agg (Ag m)] [] (Ac (Dq m)) :=
 Ah Al Am Tryz.func23 (by kernel_rfl) rfl (Ag9 _ m) ⟨IX m,YA hw,AG (ieq _ _)⟩
theorem Gr {m:D.Model}{s:D.State}(hw:Ay m)(hs:A7 s)(hcl:Dq m=true->m.Claim<m.Procs.length):Ai Tryz.prog 38 [] [.agg (Ag m),.agg (Ae s)] [] (Aa (Cf m s)):=by
 refine Ah Al Am Tryz.func38 (by kernel_rfl) rfl (Uu _ m s) ⟨Dq m,Mr hw,fun h=>C2 ?_,fun h=>⟨DG m s,Ur hs (hcl (by simpa using h)),fun h2=>C2 ?_,fun h2=>C2 ?_⟩⟩
 ·unfold Cf;rw[show Dq m=false by simpa using h]<;>rfl
 ·unfold Cf;rw[show Dq m=true by simpa using h,show DG m s=false by simpa using h2]<;>rfl
 ·unfold Cf;rw[show Dq m=true by simpa using h,show DG m s=true by simpa using h2]<;>rfl
theorem Fit.small {s:D.State}(h:Fit s):A7 s:=by
 have hg:=h.g
 have hc:=h.c
 have hp:=h.p
 refine⟨by unfold Len;omega,by unfold Len;omega,by unfold Len;omega,fun c hc=>⟨by have:=(h.q c hc).1;unfold Len;omega,fun x hx=>by have:=(h.q c hc).2 x hx;unfold Len;omega⟩,fun p hp=>by have:=h.f p hp;unfold Len;omega⟩
theorem Lz {m:D.Model}{s:D.State}(h:Cf m s=0):Dq m=true/\DG m s=true:=by
 unfold Cf at h
 cases h1:Dq m<;>cases h2:DG m s<;>simp[h1,h2]at h ⊢
structure Ca (w w':World) (F:Nat->Prop):Prop where
 os:w'.os=w.os
 tape:w'.tape=w.tape
 output:w'.output=w.output
 size:w.heap.size<=w'.heap.size
 block:∀ k,k<w.heap.size->¬ F k->w'.heap[k]?=w.heap[k]?
theorem Ca.refl (w:World)(F:Nat->Prop):Ca w w F:=⟨rfl,rfl,rfl,Ak6 _,fun _ _ _=>rfl⟩
theorem Ca.alloc {w w':World}{F:Nat->Prop}(h:Ca w w' F)(o:Obj):Ca w (w'.alloc o) F :=
 ⟨h.os,h.tape,h.output,Als h.size (by simp),fun k hk hn=>(Below.heap_alloc w' o k (Alr hk h.size)).trans (h.block k hk hn)⟩
theorem Ca.setCell {w w':World}{F:Nat->Prop}(h:Ca w w' F){p:Addr}(hp:F p.block∨w.heap.size<=p.block)(u:Value):Ca w (w'.setCell p u) F :=
 ⟨h.os,h.tape,h.output,by simpa[World.setCell] using h.size,fun k hk hn =>
  (Below.heap_setCell w' p u k (by rintro rfl;rcases hp with hp | hp;exact hn hp;omega)).trans (h.block k hk hn)⟩
theorem Ca.grown {w w' w'':World}{F:Nat->Prop}{row:Option Nat}(h:Ca w w' F)(hg:w'.grownBy w'' row)(hr:∀ k,row=some k->F k∨w.heap.size<=k):Ca w w'' F :=
 ⟨hg.os.trans h.os,hg.tape.trans h.tape,hg.output.trans h.output,Als h.size hg.size,fun k hk hn =>
  (hg.block k (Alr hk h.size) (fun e=>by rcases hr k e.symm with h1 | h1;exact hn h1;omega)).trans (h.block k hk hn)⟩
theorem Ca.trans {a b c:World}{F G:Nat->Prop}(h:Ca a b F)(k:Ca b c G)(hG:∀ i,G i->F i∨a.heap.size<=i):Ca a c F :=
 ⟨k.os.trans h.os,k.tape.trans h.tape,k.output.trans h.output,Als h.size k.size,fun i hi hn =>
  (k.block i (Alr hi h.size) (fun hg=>by rcases hG i hg with h1 | h1;exact hn h1;omega)).trans (h.block i hi hn)⟩
theorem Ca.below {w w':World}{F:Nat->Prop}{B:Nat}(h:Ca w w' F)(hB:B<=w.heap.size)(hF:∀ k,F k->B<=k):Below B w w' :=
 ⟨h.os,h.tape,h.output,h.size,fun k hk=>h.block k (Alr hk hB) (fun hf=>by have:=hF k hf;omega)⟩
theorem Ca.of_below {w w':World}{F:Nat->Prop}(h:Below w.heap.size w w'):Ca w w' F :=
 ⟨h.os,h.tape,h.output,h.size,fun k hk _=>h.block k hk⟩
theorem CB {w w':World}{base:Nat}{e:TypeId}{size:Nat}{v:Value}{n:Nat}{xs:List Value}(h:w.ownsRow base e size v n xs)
  (hs:∀ k,v.ownBlock=some k->w'.heap[k]?=w.heap[k]?):w'.ownsRow base e size v n xs:=by
 refine⟨h.1,?_⟩
 rcases h.2 with hn | ⟨g,cap,cur,rfl,hb,hg,rest⟩
 ·exact .inl hn
 ·exact .inr ⟨g,cap,cur,rfl,hb,by rw[hs g rfl];exact hg,rest⟩
theorem AU {w:World}{base:Nat}{e:TypeId}{size:Nat}{v:Value}{n:Nat}{xs:List Value}(h:w.ownsRow base e size v n xs){k:Nat}(hk:v.ownBlock=some k):∃ cur,w.heap[k]?=some (.cells cur e (0,0)):=by
 rcases h.2 with⟨rfl,_⟩ | ⟨g,cap,cur,rfl,hb,hg,rest⟩
 ·simp[Value.ownBlock]at hk
 ·simp[Value.ownBlock]at hk;subst hk;exact⟨cur,hg⟩
theorem BJ {w:World}{b:Nat}{o:Obj}(h:w.heap[b]?=some o):b<w.heap.size:=lt_of_block h
theorem Ec {w:World}{a b:Nat}{c d:Array Value}{s t:TypeId}{f g:Nat × Nat}(ha:w.heap[a]?=some (.cells c s f))(hb:w.heap[b]?=some (.cells d t g))(hst:s≠t):a≠b:=by
 rintro rfl;rw[ha]at hb;simp at hb;exact hst hb.2.1
theorem Aj {w:World}{b i:Nat}{cs:Array Value}{t:TypeId}{v:Value}(h:w.heap[b]?=some (.cells cs t (0,0)))(hi:cs[i]?=some v):w.cell? ⟨b,i,none⟩=some v:=by
 simp[World.cell?,h,hi]
theorem Ax {w:World}{b i:Nat}{cs:Array Value}{t:TypeId}(h:w.heap[b]?=some (.cells cs t (0,0))):w.frozen? ⟨b,i,none⟩=false:=by
 simp[World.frozen?,h]
theorem A1 {w:World}{b i:Nat}{cs:Array Value}{t:TypeId}(h:w.heap[b]?=some (.cells cs t (0,0)))(u:Value):(w.setCell ⟨b,i,none⟩ u).heap[b]?=some (.cells (cs.setIfInBounds i u) t (0,0)) :=
 heap_setCell_same w b i cs t u h
theorem B7 {P:Program}{t:TypeId}{z:Value}{s b:Nat}(h:(P.info? t).map (fun i=>(i.zero,i.size,i.bytes))=some (some z,s,b)):∃ i,P.info? t=some i/\i.zero=some z/\i.size=s/\i.bytes=b:=by
 cases hi:P.info? t with
 | none=>rw[hi]at h;cases h
 | some i=>rw[hi]at h;simp only[AmG,Ak1,AlH]at h;exact⟨i,rfl,h⟩
theorem JH : (Tryz.prog.info? 2).map (fun i=>(i.zero,i.size,i.bytes))=some (some (.int .i64 0),1,8):=by kernel_rfl
theorem Eh {w:World}{n0:Nat}{e:TypeId}{v:Value}{n:Nat}{xs:List Value}(h:w.ownsRow n0 e 1 v n xs) :
  ∃ ao cap,v=.slice ao n cap/\n<=cap/\cap<=maxLen/\(0<n->∃ g,ao=some ⟨g,0,none⟩/\n0<=g/\g<w.heap.size/\∀ j,j<n->w.cell? ⟨g,j,none⟩=xs[j]?):=by
 rcases h.2 with⟨rfl,rfl⟩ | ⟨g,cap,cur,rfl,hb,hg,h1,h2,_⟩
 ·exact⟨none,0,rfl,Ak6 _,Alc _,fun h=>by omega⟩
 ·exact⟨_,cap,rfl,h1,h2,fun _=>⟨g,rfl,hb,BJ hg,fun j hj=>h.cellAt j (by omega)⟩⟩
theorem Ud {w:World}{E:AF}{m:Option Phi}{n0:Nat}{v:Value}{xs:List Int}(h:w.ownsRow n0 2 1 v xs.length (xs.map (Value.int .i64)))(hA:∀ k,E.fz k->k<n0):V w E m (Ad true xs) v:=by
 obtain⟨ao,cap,rfl,h1,h2,h3⟩:=Eh h
 refine AmK h1 h2 fun hp=>?_
 obtain⟨g,rfl,hg,hlt,hc⟩:=h3 hp
 refine⟨g,0,rfl,hlt,fun hk=>by have:=hA g hk;omega,fun i _=>rfl,fun i _=>.int .i64 (xs.getD i 0),fun i j y hi hy=>?_,fun i j y hi hy=>?_⟩
 ·match j,hy with
  | 0,_ =>
   have:=hc i hi
   simp only[AlC,Nat.mul_one,Al7]
   rw[this];simp[List.getD,hi]
  | j+1,hy=>simp at hy
 ·match j,hy with
  | 0,hy=>simp only[Ala,Ak1]at hy;subst hy;exact .sc
  | j+1,hy=>simp at hy
set_option maxHeartbeats 1000000 in
theorem FX {w:World}{ao:Option Addr}{cap:Nat}{xs:List Int}(h1:xs.length<=cap)(h2:cap<=maxLen)(hr:xs.length*8<=140737488355328)(h3:0<xs.length->∃ a,ao=some a/\∀ i,i<xs.length->w.cell? (a.add i)=some (.int .i64 (xs.getD i 0))) :
  Calls Tryz.prog 24 #[.slice ao xs.length cap] w fun e w'=>∃ v',e=.returned v'/\w'.ownsRow w.heap.size 2 1 v' xs.length (xs.map (Value.int .i64))/\Below w.heap.size w w':=by
 have q22:∀ (w:World) (a:Option Addr) (n c n' c':Nat),(binOp .eql 23 (.slice a n c) (.slice none n' c')).run Tryz.prog w=.ok (.bool a.isNone) w:=fun w a n c n' c'=>Lib.run_eql_slice_nil w _ _ a n c n' c' Tryz.underlying23
 obtain⟨ki,khi,khz0,khz1,khz2⟩:=B7 JH
 cases ao with
 | none =>
  have h0:xs=[]:=by
   apply Alz
   apply Alt
   intro hp
   obtain⟨_,e,_⟩:=h3 (by omega)
   cases e
  subst h0
  clear h3
  go_enter Tryz.func24,Tryz.ntmps24
  go_wp2
  go_ret
  exact⟨_,rfl,World.ownsRow_nil _ _ _ _,Below.refl _ _⟩
 | some a =>
  have hn:∀ (j:Nat) (u:Value),(xs.map (Value.int .i64))[j]?=some u->w.cell? (a.add j)=some u:=by
   intro j u hj
   have hjl:j<xs.length:=by have:=(Ak3.1 hj).1;simpa using this
   obtain⟨a',e,hc⟩:=h3 (by omega)
   simp only[Ak1]at e
   subst e
   rw[hc j hjl,← hj];simp[List.getD,hjl]
  have HN:=Lib.hid hn
  clear h3 hn
  have hlen:=h2
  unfold maxLen at hlen
  go_enter Tryz.func24,Tryz.ntmps24
  go_wp2_with (at_builtin;refine wpList_append_own _ rfl _ _ 23 rfl w.heap.size 2 ki (.int .i64 0) 1 8 Tryz.underlying23 khi khz0 khz1 khz2 rfl (by decide) _ _ _ rfl (World.ownsRow_made w #[] 0 (Ak6 _) (Alc _) (by simp)) a xs.length cap (xs.map (Value.int .i64)) rfl ?qc1 ?qc2 ?qc3 ?qc4 ?qc5 ?qc6 ?_)
  case qc1=>simp
  case qc2=>intro j u hj;have:=HN.out j u hj;exact Lib.cell?_alloc_some _ this
  case qc3=>intro u hu;simp at hu;obtain⟨x,_,rfl⟩:=hu;rfl
  case qc4=>unfold maxLen;omega
  case qc5=>omega
  case qc6=>simp
  intro v' w1 hown hgrow _
  go_wp2
  go_ret
  exact⟨v',rfl,by simpa using hown,((Below.refl _ w).alloc (Ak6 _) _).grown hgrow (by simp) (by intro k hk;simp[Value.ownBlock]at hk;omega)⟩
theorem Ly {xs:List Int}(hr:xs.length*8<=140737488355328):Ai Tryz.prog 24 [] [Ad true xs] [] (Ad true xs):=by
 refine Ai.hand ⟨_,Tryz.func24,rfl,by kernel_rfl⟩ fun w E vs hA hL _ _ hs=>?_
 obtain⟨u1,us1,rfl,v1,hs⟩:=hs.cons_inv
 obtain rfl:=hs.nil_inv
 obtain⟨ao,cap,rfl,h1,h2,h3⟩:=V.sl_inv v1
 refine(FX h1 h2 hr fun hp=>?_).mono ?_
 ·obtain⟨b,off,rfl,_,_,_,u,hc,hv⟩:=h3 hp
  refine⟨_,rfl,fun i hi=>?_⟩
  have c1:=hc i 0 _ hi rfl
  have c2:=(hv i 0 _ hi rfl).sc_inv
  rw[Addr.add_lit]
  rw[c2]at c1
  simpa using c1
 ·rintro e w' ⟨v',rfl,ho,hb⟩
  exact⟨v',rfl,Ud ho hA,hb⟩
def C5 (f:FuncId):Shp :=
 bif Nat.beq f 93||Nat.beq f 193||Nat.beq f 172||Nat.beq f 37 then Abo
 else bif Nat.beq f 61||Nat.beq f 183||Nat.beq f 132||Nat.beq f 169||Nat.beq f 171||Nat.beq f 130||Nat.beq f 131||Nat.beq f 134||Nat.beq f 129||Nat.beq f 170||Nat.beq f 135||Nat.beq f 94||Nat.beq f 174||Nat.beq f 175 then Ah2
 else bif Nat.beq f 128 then Xd
 else bif Nat.beq f 24||Nat.beq f 30 then AiB else Ld f
abbrev D2 : TypeId:=2
abbrev GS : TypeId:=98
abbrev D1 : TypeId:=86
abbrev Eo : TypeId:=88
abbrev BG : TypeId:=35
theorem GX : (Tryz.prog.info? GS).map (fun i=>(i.zero,i.size,i.bytes))=some (some (.slice none 0 0),1,24):=by kernel_rfl
theorem AcD : (Tryz.prog.info? D1).map (fun i=>(i.zero,i.size,i.bytes))=some (some (.agg #[.int .i64 0,.slice none 0 0]),2,32):=by kernel_rfl
theorem AcC : (Tryz.prog.info? Eo).map (fun i=>(i.zero,i.size,i.bytes))=some (some (.agg #[.int .i64 0,.int .i64 0,.int .i64 0,.slice none 0 0]),4,48):=by kernel_rfl
abbrev I4 (w:World)(n0:Nat)(v:Value)(xs:List Int):Prop:=w.ownsRow n0 D2 1 v xs.length (xs.map (Value.int .i64))
structure BN (w:World) (n0:Nat) (v:Value) (vs:List Value) (q:List (List Int)):Prop where
 row:w.ownsRow n0 GS 1 v q.length vs
 len:vs.length=q.length
 each:∀ (i:Nat) (u:Value) (m:List Int),vs[i]?=some u->q[i]?=some m->I4 w n0 u m
def E7 : List D.Chan->List Value->List Value
 | c::cs,q::qs=>.int .i64 c.Shape::q::E7 cs qs
 | _,_=>[]
def Dy : List D.Process->List Value->List Value
 | p::ps,f::fs=>.int .i64 p.Type_::.int .i64 p.Loc::.int .i64 p.Prio::f::Dy ps fs
 | _,_=>[]
structure Hf (w:World) (n0:Nat) (v:Value) (qs:List Value) (cs:List D.Chan):Prop where
 row:w.ownsRow n0 D1 2 v cs.length (E7 cs qs)
 len:qs.length=cs.length
 each:∀ (i:Nat) (u:Value) (c:D.Chan),qs[i]?=some u->cs[i]?=some c->∃ vs,BN w n0 u vs c.Queue
structure FL (w:World) (n0:Nat) (v:Value) (fs:List Value) (ps:List D.Process):Prop where
 row:w.ownsRow n0 Eo 4 v ps.length (Dy ps fs)
 len:fs.length=ps.length
 each:∀ (i:Nat) (u:Value) (p:D.Process),fs[i]?=some u->ps[i]?=some p->I4 w n0 u p.Frame
 apart:∀ (i j:Nat) (u v:Value) (k:Nat),i<j->fs[i]?=some u->fs[j]?=some v->u.ownBlock=some k->v.ownBlock≠some k
section
variable {w w':World} {n0 n1:Nat}
theorem Db {e:TypeId}{sz:Nat}{v:Value}{n:Nat}{xs:List Value}(h:w.ownsRow n0 e sz v n xs) :
  ∃ ao cap,v=.slice ao n cap/\n<=cap/\cap<=maxLen/\(0<n->∃ g,ao=some ⟨g,0,none⟩/\n0<=g/\g<w.heap.size/\∀ j,j<n*sz->w.cell? ⟨g,j,none⟩=xs[j]?):=by
 rcases h.2 with⟨rfl,rfl⟩ | ⟨g,cap,cur,rfl,hb,hg,h1,h2,_⟩
 ·exact⟨none,0,rfl,Ak6 _,Alc _,fun h=>by omega⟩
 ·exact⟨_,cap,rfl,h1,h2,fun _=>⟨g,rfl,hb,BJ hg,fun j hj=>h.cellAt j hj⟩⟩
theorem CH {e:TypeId}{sz:Nat}{v:Value}{n:Nat}{xs:List Value}(h:w.ownsRow n0 e sz v n xs)(hb:n1<=n0):w.ownsRow n1 e sz v n xs :=
 ⟨h.1,h.2.imp id fun⟨g,cap,cur,e,h1,h2⟩=>⟨g,cap,cur,e,Als hb h1,h2⟩⟩
abbrev Cd (w w':World)(n0:Nat)(ts:List TypeId):Prop:=∀ (k:Nat) (cur:Array Value) (t:TypeId),n0<=k->k<w.heap.size->w.heap[k]?=some (.cells cur t (0,0))->t∈ts->w'.heap[k]?=w.heap[k]?
theorem B4 {e:TypeId}{sz:Nat}{v:Value}{n:Nat}{xs:List Value}{ts:List TypeId}(h:w.ownsRow n0 e sz v n xs)(hk:Cd w w' n0 ts)(he:e∈ts):w'.ownsRow n0 e sz v n xs :=
 CB h fun k e1=>by
  obtain⟨cur,hc⟩:=AU h e1
  exact hk k cur e (h.lt k e1).1 (h.lt k e1).2 hc he
theorem BN.kept {v:Value}{vs:List Value}{q:List (List Int)}{ts:List TypeId}(h:BN w n0 v vs q)(hk:Cd w w' n0 ts)(h1:GS∈ts)(h2:D2∈ts):BN w' n0 v vs q :=
 ⟨B4 h.row hk h1,h.len,fun i u m hu hm=>B4 (h.each i u m hu hm) hk h2⟩
theorem Hf.kept {v:Value}{qs:List Value}{cs:List D.Chan}{ts:List TypeId}(h:Hf w n0 v qs cs)(hk:Cd w w' n0 ts)(h0:D1∈ts)(h1:GS∈ts)(h2:D2∈ts):Hf w' n0 v qs cs :=
 ⟨B4 h.row hk h0,h.len,fun i u c hu hc=>by obtain⟨vs,hq⟩:=h.each i u c hu hc;exact⟨vs,hq.kept hk h1 h2⟩⟩
theorem FL.kept {v:Value}{fs:List Value}{ps:List D.Process}{ts:List TypeId}(h:FL w n0 v fs ps)(hk:Cd w w' n0 ts)(h0:Eo∈ts)(h2:D2∈ts):FL w' n0 v fs ps :=
 ⟨B4 h.row hk h0,h.len,fun i u p hu hp=>B4 (h.each i u p hu hp) hk h2,h.apart⟩
theorem BN.base {v:Value}{vs:List Value}{q:List (List Int)}(h:BN w n0 v vs q)(hb:n1<=n0):BN w n1 v vs q :=
 ⟨CH h.row hb,h.len,fun i u m hu hm=>CH (h.each i u m hu hm) hb⟩
theorem Cd.of {ts:List TypeId}(h:∀ k,n0<=k->k<w.heap.size->w'.heap[k]?=w.heap[k]?):Cd w w' n0 ts:=fun k _ _ h0 h1 _ _=>h k h0 h1
theorem Cd.below {ts:List TypeId}(h:Below w.heap.size w w'):Cd w w' n0 ts:=Cd.of fun k _ hk=>h.block k hk
theorem Cd.alloc {ts:List TypeId}(o:Obj):Cd w (w.alloc o) n0 ts:=Cd.of fun _ _ hk=>Below.heap_alloc _ _ _ hk
theorem Cd.drewN {ts:List TypeId}(n:Nat):Cd w (w.drewN n) n0 ts:=Cd.of fun _ _ _=>rfl
theorem Cd.grown {e:TypeId}{sz:Nat}{v:Value}{n:Nat}{xs:List Value}{ts:List TypeId}(hg:w.grownBy w' v.ownBlock)(hr:w.ownsRow n1 e sz v n xs)(he:e ∉ ts):Cd w w' n0 ts:=fun k cur t _ h1 hk ht =>
 hg.block k h1 fun e1=>by
  obtain⟨c2,e2⟩:=AU hr e1.symm
  exact Ec hk e2 (by rintro rfl;exact he ht) rfl
theorem Cd.set {ts:List TypeId}{b i:Nat}{c:Array Value}{t:TypeId}{f:Nat × Nat}{u:Value}(hb:w.heap[b]?=some (.cells c t f))(ht:t ∉ ts):Cd w (w.setCell ⟨b,i,none⟩ u) n0 ts:=fun k cur t' _ _ hk ht' =>
 Below.heap_setCell _ _ _ _ (by rintro rfl;exact Ec hk hb (by rintro rfl;exact ht ht') rfl)
theorem Cd.low {ts:List TypeId}{b i:Nat}{u:Value}(hb:b<n0):Cd w (w.setCell ⟨b,i,none⟩ u) n0 ts:=Cd.of fun k h0 _=>Below.heap_setCell _ _ _ _ (by rintro rfl;omega)
theorem BN.nil (w:World)(n0:Nat):BN w n0 (.slice none 0 0) [] []:=⟨World.ownsRow_nil _ _ _ _,rfl,fun i x m h=>by simp at h⟩
theorem Hf.nil (w:World)(n0:Nat):Hf w n0 (.slice none 0 0) [] []:=⟨World.ownsRow_nil _ _ _ _,rfl,fun i x m h=>by simp at h⟩
theorem FL.nil (w:World)(n0:Nat):FL w n0 (.slice none 0 0) [] []:=⟨World.ownsRow_nil _ _ _ _,rfl,fun i x m h=>by simp at h,fun i j u v k _ h=>by simp at h⟩
theorem Nm {α:Type}{R:Value->α->Prop}{vs:List Value}{l:List α}{u:Value}{a:α}(hl:vs.length=l.length)(h:∀ (i:Nat) x y,vs[i]?=some x->l[i]?=some y->R x y)(h2:R u a):∀ (i:Nat) x y,(vs++[u])[i]?=some x->(l++[a])[i]?=some y->R x y:=by
 intro i x y hx hy
 by_cases hi:i<l.length
 ·rw[Ale (by rw[hl];exact hi)]at hx
  rw[Ale hi]at hy
  exact h i x y hx hy
 ·have hil:i<l.length+1:=by have:=(Ak3.1 hy).1;simpa using this
  obtain rfl:i=l.length:=by omega
  rw[All (Ak6 _)]at hy
  rw[All (by rw[hl];exact Ak6 _)]at hx
  simp[hl]at hx hy
  subst hx hy
  exact h2
theorem BN.more {v v' u:Value}{vs:List Value}{q:List (List Int)}{m:List Int}(h:BN w n0 v vs q)(hm:I4 w n0 u m)
  (hr:w'.ownsRow n0 GS 1 v' (q.length+1) (vs++[u])) (hg:w.grownBy w' v.ownBlock):BN w' n0 v' (vs++[u]) (q++[m]):=by
 have hk:Cd w w' n0 [D2]:=Cd.grown hg h.row (by decide)
 exact⟨by simpa using hr,by simp[h.len],Nm (R:=I4 w' n0) h.len (fun i x l hx hl=>B4 (h.each i x l hx hl) hk (by simp)) (B4 hm hk (by simp))⟩
theorem N5 : ∀ {cs:List D.Chan} {qs:List Value} {c:D.Chan} {q:Value},qs.length=cs.length->E7 (cs++[c]) (qs++[q])=E7 cs qs++[.int .i64 c.Shape,q]
 | [],[],c,q,_=>rfl
 | d::cs,r::qs,c,q,h=>by
  have:=N5 (cs:=cs) (qs:=qs) (c:=c) (q:=q) (by simpa using h)
  simp only[Amo,E7,this]
 | [],_::_,_,_,h=>by simp at h
 | _::_,[],_,_,h=>by simp at h
theorem N4 : ∀ {ps:List D.Process} {fs:List Value} {p:D.Process} {f:Value},fs.length=ps.length->Dy (ps++[p]) (fs++[f])=Dy ps fs++[.int .i64 p.Type_,.int .i64 p.Loc,.int .i64 p.Prio,f]
 | [],[],_,_,_=>rfl
 | d::ps,r::fs,p,f,h=>by
  have:=N4 (ps:=ps) (fs:=fs) (p:=p) (f:=f) (by simpa using h)
  simp only[Amo,Dy,this]
 | [],_::_,_,_,h=>by simp at h
 | _::_,[],_,_,h=>by simp at h
theorem Hf.more {v v' u:Value}{qs vs:List Value}{cs:List D.Chan}{c:D.Chan}(h:Hf w n0 v qs cs)(hq:BN w n0 u vs c.Queue)
  (hr:w'.ownsRow n0 D1 2 v' (cs.length+1) (E7 cs qs++[.int .i64 c.Shape,u])) (hg:w.grownBy w' v.ownBlock):Hf w' n0 v' (qs++[u]) (cs++[c]):=by
 have hk:Cd w w' n0 [GS,D2]:=Cd.grown hg h.row (by decide)
 refine⟨by rw[N5 h.len];simpa using hr,by simp[h.len],Nm (R:=fun u c=>∃ vs,BN w' n0 u vs c.Queue) h.len (fun i x l hx hl=>?_) ⟨vs,hq.kept hk (by simp) (by simp)⟩⟩
 obtain⟨vs,hv⟩:=h.each i x l hx hl
 exact⟨vs,hv.kept hk (by simp) (by simp)⟩
theorem FL.more {v v' u:Value}{fs:List Value}{ps:List D.Process}{p:D.Process}(h:FL w n0 v fs ps)(hf:I4 w n0 u p.Frame)(hnew:∀ (i:Nat) (x:Value) (k:Nat),fs[i]?=some x->x.ownBlock=some k->u.ownBlock≠some k)
  (hr:w'.ownsRow n0 Eo 4 v' (ps.length+1) (Dy ps fs++[.int .i64 p.Type_,.int .i64 p.Loc,.int .i64 p.Prio,u])) (hg:w.grownBy w' v.ownBlock):FL w' n0 v' (fs++[u]) (ps++[p]):=by
 have hk:Cd w w' n0 [D2]:=Cd.grown hg h.row (by decide)
 refine⟨by rw[N4 h.len];simpa using hr,by simp[h.len],Nm (R:=fun u p=>I4 w' n0 u p.Frame) h.len (fun i x l hx hl=>B4 (h.each i x l hx hl) hk (by simp)) (B4 hf hk (by simp)),?_⟩
 intro i j x y k hij hx hy ex
 have hj:j<fs.length+1:=by have:=(Ak3.1 hy).1;simpa using this
 rw[Ale (by omega)]at hx
 by_cases hjl:j<fs.length
 ·rw[Ale hjl]at hy
  exact h.apart i j x y k hij hx hy ex
 ·obtain rfl:j=fs.length:=by omega
  rw[All (Ak6 _)]at hy
  simp at hy
  subst hy
  exact hnew i x k hx ex
theorem Qw : ∀ {cs:List D.Chan} {qs:List Value} {i:Nat},qs.length=cs.length->i<cs.length->(E7 cs qs)[i*2]?=some (.int .i64 (cs.getD i default).Shape)/\(E7 cs qs)[i*2+1]?=qs[i]?
 | d::cs,r::qs,0,_,_=>⟨rfl,rfl⟩
 | d::cs,r::qs,i+1,h,hi=>by
  have:=Qw (cs:=cs) (qs:=qs) (i:=i) (by simpa using h) (by simpa using hi)
  rw[show(i+1)*2=i*2+2 by omega]
  simpa[E7] using this
 | [],_,_,_,h=>by simp at h
 | _::_,[],_,h,_=>by simp at h
theorem LA : ∀ {ps:List D.Process} {fs:List Value} {i:Nat},fs.length=ps.length->i<ps.length->(Dy ps fs)[i*4]?=some (.int .i64 (ps.getD i default).Type_)/\(Dy ps fs)[i*4+1]?=some (.int .i64 (ps.getD i default).Loc)/\(Dy ps fs)[i*4+2]?=some (.int .i64 (ps.getD i default).Prio)/\(Dy ps fs)[i*4+3]?=fs[i]?
 | d::ps,r::fs,0,_,_=>⟨rfl,rfl,rfl,rfl⟩
 | d::ps,r::fs,i+1,h,hi=>by
  have:=LA (ps:=ps) (fs:=fs) (i:=i) (by simpa using h) (by simpa using hi)
  rw[show(i+1)*4=i*4+4 by omega]
  simpa[Dy] using this
 | [],_,_,_,h=>by simp at h
 | _::_,[],_,h,_=>by simp at h
variable {E : AF} {m:Option Phi}
end
theorem Zl {w:World}{n0 g cap k:Nat}{xs:List Int}(h:I4 w n0 (.slice (some ⟨g,0,none⟩) xs.length cap) xs)(x:Int):I4 (w.setCell ⟨g,k,none⟩ (.int .i64 x)) n0 (.slice (some ⟨g,0,none⟩) (xs.set k x).length cap) (xs.set k x):=by
 refine⟨by simp,?_⟩
 rcases h.2 with⟨e,_⟩ | ⟨g',cap',cur,e,hb,hg,h1,h2,h3,h4⟩
 ·simp at e
 ·simp at e
  obtain⟨rfl,rfl⟩:=e
  refine .inr ⟨g,cap,cur.setIfInBounds k (.int .i64 x),by simp,hb,A1 hg _,by simpa using h1,h2,by simpa using h3,?_⟩
  rw[Array.toList_setIfInBounds,List.take_set,List.map_set,AlT,h4]
theorem Qt : ∀ {ps:List D.Process} {fs:List Value} {i:Nat} {p':D.Process},p'.Type_=(ps.getD i default).Type_->p'.Loc=(ps.getD i default).Loc->p'.Prio=(ps.getD i default).Prio->Dy (ps.set i p') fs=Dy ps fs
 | [],_,_,_,_,_,_=>rfl
 | p::ps,[],0,_,_,_,_=>rfl
 | p::ps,[],i+1,_,_,_,_=>rfl
 | p::ps,f::fs,0,p',h1,h2,h3=>by
  have e1:p'.Type_=p.Type_:=h1
  have e2:p'.Loc=p.Loc:=h2
  have e3:p'.Prio=p.Prio:=h3
  simp only[List.set_cons_zero,Dy,e1,e2,e3]
 | p::ps,f::fs,i+1,p',h1,h2,h3=>by
  have:=Qt (ps:=ps) (fs:=fs) (i:=i) (p':=p') h1 h2 h3
  simp only[List.set_cons_succ,Dy,this]
theorem FL.write {w:World}{n0 g cap k i:Nat}{v:Value}{fs:List Value}{ps:List D.Process}(h:FL w n0 v fs ps)(hi:i<ps.length)(hf:fs[i]?=some (.slice (some ⟨g,0,none⟩) (ps.getD i default).Frame.length cap))(x:Int) :
  FL (w.setCell ⟨g,k,none⟩ (.int .i64 x)) n0 v fs (ps.set i { ps.getD i default with Frame:=(ps.getD i default).Frame.set k x }):=by
 have hpi:ps[i]?=some (ps.getD i default):=by simp[List.getD,hi]
 have hr:=h.each i _ _ hf hpi
 obtain⟨cur,hblk⟩:=AU hr (k:=g) rfl
 have hk:Cd w (w.setCell ⟨g,k,none⟩ (.int .i64 x)) n0 [Eo]:=Cd.set hblk (by decide)
 refine⟨by rw[Qt (p':={ ps.getD i default with Frame:=(ps.getD i default).Frame.set k x }) rfl rfl rfl,AlT];exact B4 h.row hk (by simp),by simp[h.len],fun j u p hu hp=>?_,h.apart⟩
 by_cases hij:i=j
 ·subst hij
  rw[hf]at hu
  simp only[Ak1]at hu
  subst hu
  rw[List.getElem?_set_self hi]at hp
  simp only[Ak1]at hp
  subst hp
  have:=Zl (k:=k) hr x
  simpa using this
 ·rw[Am6 hij]at hp
  refine CB (h.each j u p hu hp) fun b hb=>Below.heap_setCell _ _ _ _ ?_
  rintro rfl
  rcases Nat.lt_or_gt_of_ne hij with hl | hl
  ·exact h.apart i j _ _ _ hl hf hu rfl hb
  ·exact h.apart j i _ _ _ hl hu hf hb rfl
def AtL (w:World)(n:Nat)(R:Nat->Nat->Nat->Prop)(v:Value):Prop :=
 ∃ ao cap,v=.slice ao n cap/\n<=cap/\cap<=maxLen/\(0<n->∃ b off,ao=some ⟨b,off,none⟩/\b<w.heap.size/\∀ i,i<n->R b off i)
def AtI (w:World)(xs:List Int)(v:Value):Prop:=AtL w xs.length (fun b off i=>w.cell? ⟨b,off+i,none⟩=some (.int .i64 (xs.getD i 0))) v
def AtQ (w:World)(q:List (List Int))(v:Value):Prop:=AtL w q.length (fun b off i=>∃ u,w.cell? ⟨b,off+i,none⟩=some u/\AtI w (q.getD i []) u) v
def AtC (w:World)(cs:List D.Chan)(v:Value):Prop :=
 AtL w cs.length (fun b off i=>∃ u,w.cell? ⟨b,off+i*2,none⟩=some (.int .i64 (cs.getD i default).Shape)/\w.cell? ⟨b,off+i*2+1,none⟩=some u/\AtQ w (cs.getD i default).Queue u) v
def AtP (w:World)(ps:List D.Process)(v:Value):Prop :=
 AtL w ps.length (fun b off i=>∃ u,w.cell? ⟨b,off+i*4,none⟩=some (.int .i64 (ps.getD i default).Type_)/\w.cell? ⟨b,off+i*4+1,none⟩=some (.int .i64 (ps.getD i default).Loc)/\w.cell? ⟨b,off+i*4+2,none⟩=some (.int .i64 (ps.getD i default).Prio)/\w.cell? ⟨b,off+i*4+3,none⟩=some u/\AtI w (ps.getD i default).Frame u) v
section
variable {w : World} {E:AF} {m:Option Phi} {v:Value} {fz:Bool}
theorem AhR {xs:List Int}(h:V w E m (Ad fz xs) v):AtI w xs v:=by
 obtain⟨ao,cap,rfl,h1,h2,h3⟩:=V.sl_inv h
 refine⟨ao,cap,rfl,h1,h2,fun hp=>?_⟩
 obtain⟨b,off,rfl,hb,_,_,u,hc,hv⟩:=h3 hp
 refine⟨b,off,rfl,hb,fun i hi=>?_⟩
 have c1:=hc i 0 _ hi rfl
 have c2:=(hv i 0 _ hi rfl).sc_inv
 rw[c2]at c1
 simpa using c1
theorem AkW {q:List (List Int)}(h:V w E m (BI fz q) v):AtQ w q v:=by
 obtain⟨ao,cap,rfl,h1,h2,h3⟩:=V.sl_inv h
 refine⟨ao,cap,rfl,h1,h2,fun hp=>?_⟩
 obtain⟨b,off,rfl,hb,_,_,u,hc,hv⟩:=h3 hp
 refine⟨b,off,rfl,hb,fun i hi=>⟨u i 0,?_,AhR (hv i 0 _ hi rfl)⟩⟩
 have c1:=hc i 0 _ hi rfl
 simpa using c1
theorem AkZ {cs:List D.Chan}(h:V w E m (AE fz cs) v):AtC w cs v:=by
 obtain⟨ao,cap,rfl,h1,h2,h3⟩:=V.sl_inv h
 refine⟨ao,cap,rfl,h1,h2,fun hp=>?_⟩
 obtain⟨b,off,rfl,hb,_,_,u,hc,hv⟩:=h3 hp
 refine⟨b,off,rfl,hb,fun i hi=>⟨u i 1,?_,?_,AkW (hv i 1 _ hi rfl)⟩⟩
 ·have c1:=hc i 0 _ hi rfl
  have c2:=(hv i 0 _ hi rfl).sc_inv
  rw[c2]at c1
  simpa using c1
 ·exact hc i 1 _ hi rfl
theorem AkX {ps:List D.Process}(h:V w E m (Au fz ps) v):AtP w ps v:=by
 obtain⟨ao,cap,rfl,h1,h2,h3⟩:=V.sl_inv h
 refine⟨ao,cap,rfl,h1,h2,fun hp=>?_⟩
 obtain⟨b,off,rfl,hb,_,_,u,hc,hv⟩:=h3 hp
 refine⟨b,off,rfl,hb,fun i hi=>⟨u i 3,?_,?_,?_,?_,AhR (hv i 3 _ hi rfl)⟩⟩
 ·have c1:=hc i 0 _ hi rfl
  have c2:=(hv i 0 _ hi rfl).sc_inv
  rw[c2]at c1
  simpa using c1
 ·have c1:=hc i 1 _ hi rfl
  have c2:=(hv i 1 _ hi rfl).sc_inv
  rw[c2]at c1
  simpa using c1
 ·have c1:=hc i 2 _ hi rfl
  have c2:=(hv i 2 _ hi rfl).sc_inv
  rw[c2]at c1
  simpa using c1
 ·exact hc i 3 _ hi rfl
end
theorem AtL.map {w w':World}{n:Nat}{R S:Nat->Nat->Nat->Prop}{v:Value}(h:AtL w n R v)(hs:w.heap.size<=w'.heap.size)(hR:∀ b off i,b<w.heap.size->i<n->R b off i->S b off i):AtL w' n S v:=by
 obtain⟨ao,cap,rfl,h1,h2,h3⟩:=h
 refine⟨ao,cap,rfl,h1,h2,fun hp=>?_⟩
 obtain⟨b,off,rfl,hb,hc⟩:=h3 hp
 exact⟨b,off,rfl,by omega,fun i hi=>hR b off i hb hi (hc i hi)⟩
theorem AtI.below {w w':World}{xs:List Int}{v:Value}(h:AtI w xs v)(hb:Below w.heap.size w w'):AtI w' xs v :=
 AtL.map h hb.size fun b off i hl _ hc=>by rw[hb.cell (p:=⟨b,off+i,none⟩) hl];exact hc
section
variable {P : Program} {fn:Func} {R:Ending->World->Prop} {a:Act} {w:World} {p u x:Tmp} {ty t:TypeId} {g:Nat} {cs:Array Value} {fr:Nat × Nat} {d:TypeDesc}
theorem Ry (h:fn.results=#[.cell p ty])(hp:a.tmps.getD p undef=.pointer (some ⟨g,0,none⟩))(hg:w.heap[g]?=some (.cells cs t fr))
  (hu:P.underlying ty=some d) (hd:(match d with | .struct _ | .array _ _=>true | _=>false)=true) (hi:(P.info? ty).map (·.size)=some cs.size) (hf:a.defers=[]) (hR:R (.returned (.agg cs)) w):bodyPost P fn R .ret a w :=
 bodyPost_ret (results_cell_row h _ w g t cs fr d hp hg hu hd hi) hf hR
theorem Md (h:fn.results=#[.cell p ty,.tmp u])(tmps:Array Value)(hp:tmps.getD p undef=.pointer (some ⟨g,0,none⟩))(hg:w.heap[g]?=some (.cells cs t fr))
  (hu:P.underlying ty=some d) (hd:(match d with | .struct _ | .array _ _=>true | _=>false)=true) (hi:(P.info? ty).map (·.size)=some cs.size) :
  (results fn tmps).run P w=.ok (.tuple #[.agg cs,tmps.getD u undef]) w:=by
 have hp':tmps[p]?.getD undef=.pointer (some ⟨g,0,none⟩):=by simpa using hp
 simp[results,h,hp',asAddr,run_loadVar_row w g t ty cs fr d hg hu hd hi]
theorem Mc (h:fn.results=#[.cell p ty,.tmp u,.tmp x])(tmps:Array Value)(hp:tmps.getD p undef=.pointer (some ⟨g,0,none⟩))(hg:w.heap[g]?=some (.cells cs t fr))
  (hu:P.underlying ty=some d) (hd:(match d with | .struct _ | .array _ _=>true | _=>false)=true) (hi:(P.info? ty).map (·.size)=some cs.size) :
  (results fn tmps).run P w=.ok (.tuple #[.agg cs,tmps.getD u undef,tmps.getD x undef]) w:=by
 have hp':tmps[p]?.getD undef=.pointer (some ⟨g,0,none⟩):=by simpa using hp
 simp[results,h,hp',asAddr,run_loadVar_row w g t ty cs fr d hg hu hd hi]
theorem DS (h:fn.results=#[.cell p ty,.tmp u])(hp:a.tmps.getD p undef=.pointer (some ⟨g,0,none⟩))(hg:w.heap[g]?=some (.cells cs t fr))
  (hu:P.underlying ty=some d) (hd:(match d with | .struct _ | .array _ _=>true | _=>false)=true) (hi:(P.info? ty).map (·.size)=some cs.size) (hf:a.defers=[]) (hR:R (.returned (.tuple #[.agg cs,a.tmps.getD u undef])) w):bodyPost P fn R .ret a w :=
 bodyPost_ret (Md h _ hp hg hu hd hi) hf hR
theorem M1 (h:fn.results=#[.cell p ty,.tmp u,.tmp x])(hp:a.tmps.getD p undef=.pointer (some ⟨g,0,none⟩))(hg:w.heap[g]?=some (.cells cs t fr))
  (hu:P.underlying ty=some d) (hd:(match d with | .struct _ | .array _ _=>true | _=>false)=true) (hi:(P.info? ty).map (·.size)=some cs.size) (hf:a.defers=[]) (hR:R (.returned (.tuple #[.agg cs,a.tmps.getD u undef,a.tmps.getD x undef])) w):bodyPost P fn R .ret a w :=
 bodyPost_ret (Mc h _ hp hg hu hd hi) hf hR
end
section
variable {P : Program} {a:Act} {w:World} {Q:Exit->Act->World->Prop}
theorem Gq {c rest:Code}(l:Nat)(hf:findLabel c l=some rest)
  (h:∀ J:Act->World->Prop,(∀ a w,rest.wp P (Exit.noGoto Q) a w->J a w)->c.wp P (Exit.jump l J Q) a w):(Code.scope c).wp P Q a w:=by
 refine wp_scope_jumps l (fun a w=>rest.wp P (Exit.noGoto Q) a w) (fun _ _=>0) hf (h _ fun _ _ h=>h) ?_
 intro a w hr b k cs
 obtain⟨e,a1,w1,hq,harr⟩:=hr b k cs
 refine⟨e,a1,w1,?_,harr⟩
 cases e with
 | goto l=>exact hq.elim
 | normal=>exact hq
 | exit _=>exact hq
 | ret=>exact hq
 | panic _=>exact hq
 | outgrown=>exact hq
@[go_sem] theorem Ah6 (l:Nat) (J:Act->World->Prop):Exit.jump l J Q .normal a w=Q .normal a w:=rfl
@[go_sem] theorem AjI (l:Nat) (J:Act->World->Prop) (id:Nat):Exit.jump l J Q (.exit id) a w=Q (.exit id) a w:=rfl
@[go_sem] theorem Akx (l:Nat) (J:Act->World->Prop):Exit.jump l J Q .ret a w=Q .ret a w:=rfl
@[go_sem] theorem Ajk (l:Nat) (J:Act->World->Prop) (ch:List PanicEntry):Exit.jump l J Q (.panic ch) a w=Q (.panic ch) a w:=rfl
end
theorem Af0 {W w1:World}(hb:Below W.heap.size W w1):(∀ b o,b<W.heap.size->w1.cell? ⟨b,o,none⟩=W.cell? ⟨b,o,none⟩)/\(∀ b o,b<W.heap.size->w1.frozen? ⟨b,o,none⟩=W.frozen? ⟨b,o,none⟩) :=
 ⟨fun b o h=>hb.cell (p:=⟨b,o,none⟩) h,fun b o h=>hb.frozen (p:=⟨b,o,none⟩) h⟩
set_option maxHeartbeats 1000000 in
theorem ME {w:World}{ao:Option Addr}{cap:Nat}{xs:List Int}(h1:xs.length<=cap)(h2:cap<=maxLen)(hr:xs.length*8<=140737488355328)(h3:0<xs.length->∃ a,ao=some a/\∀ i,i<xs.length->w.cell? (a.add i)=some (.int .i64 (xs.getD i 0))) :
  Calls Tryz.prog 30 #[.slice ao xs.length cap] w fun e w'=>∃ v',e=.returned v'/\w'.ownsRow w.heap.size 2 1 v' xs.length (xs.map (Value.int .i64))/\Below w.heap.size w w':=by
 have q22:∀ (w:World) (a:Option Addr) (n c n' c':Nat),(binOp .eql 98 (.slice a n c) (.slice none n' c')).run Tryz.prog w=.ok (.bool a.isNone) w:=fun w a n c n' c'=>Lib.run_eql_slice_nil w _ _ a n c n' c' Tryz.underlying98
 obtain⟨ki,khi,khz0,khz1,khz2⟩:=B7 JH
 cases ao with
 | none =>
  have h0:xs=[]:=by
   apply Alz
   apply Alt
   intro hp
   obtain⟨_,e,_⟩:=h3 (by omega)
   cases e
  subst h0
  clear h3
  go_enter Tryz.func30,Tryz.ntmps30
  go_wp2
  go_ret
  exact⟨_,rfl,World.ownsRow_nil _ _ _ _,Below.refl _ _⟩
 | some a =>
  have hn:∀ (j:Nat) (u:Value),(xs.map (Value.int .i64))[j]?=some u->w.cell? (a.add j)=some u:=by
   intro j u hj
   have hjl:j<xs.length:=by have:=(Ak3.1 hj).1;simpa using this
   obtain⟨a',e,hc⟩:=h3 (by omega)
   simp only[Ak1]at e
   subst e
   rw[hc j hjl,← hj];simp[List.getD,hjl]
  have HN:=Lib.hid hn
  clear h3 hn
  have hlen:=h2
  unfold maxLen at hlen
  go_enter Tryz.func30,Tryz.ntmps30
  go_wp2_with (at_builtin;refine wpList_append_own _ rfl _ _ 98 rfl w.heap.size 2 ki (.int .i64 0) 1 8 Tryz.underlying98 khi khz0 khz1 khz2 rfl (by decide) _ _ _ rfl (World.ownsRow_made w #[] 0 (Ak6 _) (Alc _) (by simp)) a xs.length cap (xs.map (Value.int .i64)) rfl ?qc1 ?qc2 ?qc3 ?qc4 ?qc5 ?qc6 ?_)
  case qc1=>simp
  case qc2=>intro j u hj;have:=HN.out j u hj;exact Lib.cell?_alloc_some _ this
  case qc3=>intro u hu;simp at hu;obtain⟨x,_,rfl⟩:=hu;rfl
  case qc4=>unfold maxLen;omega
  case qc5=>omega
  case qc6=>simp
  intro v' w1 hown hgrow _
  go_wp2
  go_ret
  exact⟨v',rfl,by simpa using hown,((Below.refl _ w).alloc (Ak6 _) _).grown hgrow (by simp) (by intro k hk;simp[Value.ownBlock]at hk;omega)⟩
theorem Z4 {w:World}{v:Value}{xs:List Int}(h:AtI w xs v)(hr:xs.length<=128) :
  Calls Tryz.prog 24 #[v] w fun e w'=>∃ v',e=.returned v'/\I4 w' w.heap.size v' xs/\Below w.heap.size w w':=by
 obtain⟨ao,cap,rfl,h1,h2,h3⟩:=h
 exact FX h1 h2 (by omega) fun hp=>by obtain⟨b,off,rfl,_,hc⟩:=h3 hp;exact⟨_,rfl,fun i hi=>by rw[Addr.add_lit];exact hc i hi⟩
theorem AhJ {w:World}{v:Value}{xs:List Int}(h:AtI w xs v)(hr:xs.length<=8) :
  Calls Tryz.prog 30 #[v] w fun e w'=>∃ v',e=.returned v'/\I4 w' w.heap.size v' xs/\Below w.heap.size w w':=by
 obtain⟨ao,cap,rfl,h1,h2,h3⟩:=h
 exact ME h1 h2 (by omega) fun hp=>by obtain⟨b,off,rfl,_,hc⟩:=h3 hp;exact⟨_,rfl,fun i hi=>by rw[Addr.add_lit];exact hc i hi⟩
theorem AtI.alloc {w:World}{xs:List Int}{v:Value}(h:AtI w xs v)(o:Obj):AtI (w.alloc o) xs v :=
 AtL.map h (by simp) fun b off i hb _ hc=>Lib.cell?_alloc_some _ hc
theorem GB {α:Type}{q:List α}{k:Nat}{m:α}(h:q[k]?=some m):q.take (k+1)=q.take k++[m]:=by
 obtain⟨hk,rfl⟩:=Ak3.1 h
 rw[List.take_succ_eq_append_getElem hk]
structure V9 (w w2 w':World) (s:D.State) (vg vc vp:Value) (n1:Nat) (qs fs:List Value):Prop where
 g:I4 w' w.heap.size vg s.Globals
 g1:∀ k,vg.ownBlock=some k->k<n1
 n0:w.heap.size<=n1
 n2:n1<=w2.heap.size
 c:Hf w2 n1 vc qs s.Chans
 kept:∀ k,n1<=k->k<w2.heap.size->w'.heap[k]?=w2.heap[k]?
 p:FL w' w2.heap.size vp fs s.Procs
 below:Below w.heap.size w w'
theorem Fo {w w':World}{b i:Nat}{u:Value}(h:Ca w w' (fun k=>k=b)):Ca w (w'.setCell ⟨b,i,none⟩ u) (fun k=>k=b) :=
 Ca.setCell (p:=⟨b,i,none⟩) h (Or.inl rfl) u
theorem H6 {w:World}{b:Nat}(v0 v1 v2 v3 v4 v5:Value) :
  Ca w ((((((w.setCell ⟨b,0,none⟩ v0).setCell ⟨b,1,none⟩ v1).setCell ⟨b,2,none⟩ v2).setCell ⟨b,3,none⟩ v3).setCell ⟨b,4,none⟩ v4).setCell ⟨b,5,none⟩ v5) (fun k=>k=b):=by
 refine Fo ?_
 refine Fo ?_
 refine Fo ?_
 refine Fo ?_
 refine Fo ?_
 refine Fo ?_
 exact Ca.refl w _
theorem Aed {w:World}{b:Nat}(v0 v1 v2 v3 v4 v5:Value) :
  ((((((w.setCell ⟨b,0,none⟩ v0).setCell ⟨b,1,none⟩ v1).setCell ⟨b,2,none⟩ v2).setCell ⟨b,3,none⟩ v3).setCell ⟨b,4,none⟩ v4).setCell ⟨b,5,none⟩ v5).heap.size=w.heap.size:=by
 simp[World.setCell]
theorem MJ {w:World}{b:Nat}{u0 u1 u2 u3 u4 u5:Value}{t:TypeId}(h:w.heap[b]?=some (.cells #[u0,u1,u2,u3,u4,u5] t (0,0)))(v0 v1 v2 v3 v4 v5:Value) :
  ((((((w.setCell ⟨b,0,none⟩ v0).setCell ⟨b,1,none⟩ v1).setCell ⟨b,2,none⟩ v2).setCell ⟨b,3,none⟩ v3).setCell ⟨b,4,none⟩ v4).setCell ⟨b,5,none⟩ v5).heap[b]?=some (.cells #[v0,v1,v2,v3,v4,v5] t (0,0)):=by
 rw[A1 (A1 (A1 (A1 (A1 (A1 h _) _) _) _) _) _];rfl
set_option maxRecDepth 100000 in
set_option maxHeartbeats 4000000 in
theorem Qq {w:World}{s:D.State}{g c p:Value}(hs:Fit s)(hg:AtI w s.Globals g)(hc:AtC w s.Chans c)(hp:AtP w s.Procs p) :
  Calls Tryz.prog 14 #[.agg #[g,c,p,.int .i64 s.Last,.int .i64 s.Alone,.int .i64 s.Claim]] w fun e w' =>
   ∃ vg vc vp n1 qs fs w2,e=.returned (.agg #[vg,vc,vp,.int .i64 s.Last,.int .i64 s.Alone,.int .i64 s.Claim])/\V9 w w2 w' s vg vc vp n1 qs fs:=by
 obtain⟨ki,khi,khz0,khz1,khz2⟩:=B7 GX
 obtain⟨kc,khc,kcz0,kcz1,kcz2⟩:=B7 AcD
 obtain⟨kp,khp,kpz0,kpz1,kpz2⟩:=B7 AcC
 have hg128:=hs.g
 have hsc:=hs.c
 have hsp:=hs.p
 obtain⟨ag,capg,rfl,hg1,hg2,hg3⟩:=id hg
 obtain⟨ac,capc,rfl,hc1,hc2,hc3⟩:=hc
 obtain⟨ap,capp,rfl,hp1,hp2,hp3⟩:=hp
 go_enter Tryz.func14,Tryz.ntmps14
 go_wp2_with (go_at_call 24;refine(Z4 (((hg.alloc _).alloc _).alloc _) hg128).mono ?_;rintro e w1 ⟨vg,rfl,hr1,hb1⟩;obtain⟨aog,cg,rfl,_⟩:=Db hr1;obtain⟨cc1,cf1⟩:=Af0 hb1)
 have hz1:w.heap.size+1+1+1<=w1.heap.size:=by simpa using hb1.size
 have a2:w1.heap[w.heap.size+1+1]?=some (.cells #[.slice ag s.Globals.length capg,.slice ac s.Chans.length capc,.slice ap s.Procs.length capp,.int .i64 s.Last,.int .i64 s.Alone,.int .i64 s.Claim] BG (0,0)):=by
  rw[hb1.block _ (by simp)]
  have:=heap_alloc_new ((w.alloc (.cells #[.slice ag s.Globals.length capg,.slice ac s.Chans.length capc,.slice ap s.Procs.length capp,.int .i64 s.Last,.int .i64 s.Alone,.int .i64 s.Claim] BG)).alloc (.cells #[.slice none 0 0,.slice none 0 0,.slice none 0 0,.int .i64 0,.int .i64 0,.int .i64 0] BG)) (.cells #[.slice ag s.Globals.length capg,.slice ac s.Chans.length capc,.slice ap s.Procs.length capp,.int .i64 s.Last,.int .i64 s.Alone,.int .i64 s.Claim] BG)
  simpa using this
 have a1:w1.heap[w.heap.size+1]?=some (.cells #[.slice none 0 0,.slice none 0 0,.slice none 0 0,.int .i64 0,.int .i64 0,.int .i64 0] BG (0,0)):=by
  rw[hb1.block _ (by simp<;>omega),Below.heap_alloc _ _ _ (by simp)]
  have:=heap_alloc_new (w.alloc (.cells #[.slice ag s.Globals.length capg,.slice ac s.Chans.length capc,.slice ap s.Procs.length capp,.int .i64 s.Last,.int .i64 s.Alone,.int .i64 s.Claim] BG)) (.cells #[.slice none 0 0,.slice none 0 0,.slice none 0 0,.int .i64 0,.int .i64 0,.int .i64 0] BG)
  simpa using this
 have a0:w1.heap[w.heap.size]?=some (.cells #[.slice ag s.Globals.length capg,.slice ac s.Chans.length capc,.slice ap s.Procs.length capp,.int .i64 s.Last,.int .i64 s.Alone,.int .i64 s.Claim] BG (0,0)):=by
  rw[hb1.block _ (by simp<;>omega),Below.heap_alloc _ _ _ (by simp<;>omega),Below.heap_alloc _ _ _ (by simp)]
  have:=heap_alloc_new w (.cells #[.slice ag s.Globals.length capg,.slice ac s.Chans.length capc,.slice ap s.Procs.length capp,.int .i64 s.Last,.int .i64 s.Alone,.int .i64 s.Claim] BG)
  simpa using this
 have hB1:Below w.heap.size w w1:=(((Below.refl _ w).alloc (Ak6 _) _).alloc (by simp) _ |>.alloc (by simp<;>omega) _).trans (hb1.mono (by simp<;>omega))
 clear cc1 cf1
 have F0:(((w1.setCell ⟨w.heap.size+1+1,0,none⟩ (.slice aog s.Globals.length cg)).setCell ⟨w.heap.size+1+1,1,none⟩ (.slice none 0 0)).setCell ⟨w.heap.size+1+1,2,none⟩ (.slice none 0 0)).heap[w.heap.size]?=some (.cells #[.slice ag s.Globals.length capg,.slice ac s.Chans.length capc,.slice ap s.Procs.length capp,.int .i64 s.Last,.int .i64 s.Alone,.int .i64 s.Claim] BG (0,0)):=by
  rw[Below.heap_setCell _ _ _ _ (by simp<;>omega),Below.heap_setCell _ _ _ _ (by simp<;>omega),Below.heap_setCell _ _ _ _ (by simp<;>omega)];exact a0
 have F1:(((w1.setCell ⟨w.heap.size+1+1,0,none⟩ (.slice aog s.Globals.length cg)).setCell ⟨w.heap.size+1+1,1,none⟩ (.slice none 0 0)).setCell ⟨w.heap.size+1+1,2,none⟩ (.slice none 0 0)).heap[w.heap.size+1]?=some (.cells #[.slice none 0 0,.slice none 0 0,.slice none 0 0,.int .i64 0,.int .i64 0,.int .i64 0] BG (0,0)):=by
  rw[Below.heap_setCell _ _ _ _ (by simp),Below.heap_setCell _ _ _ _ (by simp),Below.heap_setCell _ _ _ _ (by simp)];exact a1
 have F2:(((w1.setCell ⟨w.heap.size+1+1,0,none⟩ (.slice aog s.Globals.length cg)).setCell ⟨w.heap.size+1+1,1,none⟩ (.slice none 0 0)).setCell ⟨w.heap.size+1+1,2,none⟩ (.slice none 0 0)).heap[w.heap.size+1+1]?=some (.cells #[.slice aog s.Globals.length cg,.slice none 0 0,.slice none 0 0,.int .i64 s.Last,.int .i64 s.Alone,.int .i64 s.Claim] BG (0,0)):=by
  rw[A1 (A1 (A1 a2 _) _) _];rfl
 have FB:Below w.heap.size w (((w1.setCell ⟨w.heap.size+1+1,0,none⟩ (.slice aog s.Globals.length cg)).setCell ⟨w.heap.size+1+1,1,none⟩ (.slice none 0 0)).setCell ⟨w.heap.size+1+1,2,none⟩ (.slice none 0 0)) :=
  ((hB1.setCell (by simp<;>omega) _).setCell (by simp<;>omega) _).setCell (by simp<;>omega) _
 have FG:I4 (((w1.setCell ⟨w.heap.size+1+1,0,none⟩ (.slice aog s.Globals.length cg)).setCell ⟨w.heap.size+1+1,1,none⟩ (.slice none 0 0)).setCell ⟨w.heap.size+1+1,2,none⟩ (.slice none 0 0)) (w.heap.size+1+1+1) (.slice aog s.Globals.length cg) s.Globals:=by
  refine CB (CH hr1 (by simp)) fun k hk=>?_
  have hkb:=(hr1.lt k hk).1
  simp at hkb
  rw[Below.heap_setCell _ _ _ _ (by simp<;>omega),Below.heap_setCell _ _ _ _ (by simp<;>omega),Below.heap_setCell _ _ _ _ (by simp<;>omega)]
 have FZ:w.heap.size+1+1+1<=(((w1.setCell ⟨w.heap.size+1+1,0,none⟩ (.slice aog s.Globals.length cg)).setCell ⟨w.heap.size+1+1,1,none⟩ (.slice none 0 0)).setCell ⟨w.heap.size+1+1,2,none⟩ (.slice none 0 0)).heap.size:=by simpa using hz1
 clear hr1 hb1 a0 a1 a2 hB1 hz1
 generalize (((w1.setCell ⟨w.heap.size+1+1,0,none⟩ (.slice aog s.Globals.length cg)).setCell ⟨w.heap.size+1+1,1,none⟩ (.slice none 0 0)).setCell ⟨w.heap.size+1+1,2,none⟩ (.slice none 0 0))=wl at *
 go_loopw [21] (fun i wr=>∃ k:Nat,k<=s.Chans.length/\i=.int .i64 k/\∃ ov qs,wr.heap[w.heap.size+1+1]?=some (.cells #[.slice aog s.Globals.length cg,ov,.slice none 0 0,.int .i64 s.Last,.int .i64 s.Alone,.int .i64 s.Claim] BG (0,0))/\Hf wr wl.heap.size ov qs (s.Chans.take k)/\Ca wl wr (fun b=>b=w.heap.size+1+1)) (fun i _=>s.Chans.length - (intOf i).toNat)
 case atStart=>exact⟨0,Alc _,rfl,.slice none 0 0,[],F2,Hf.nil _ _,Ca.refl _ _⟩
 case round =>
  obtain⟨k,hk,rfl,ov,qs,hB,hC,hT⟩:=hrel
  generalize wr=wo at *
  by_cases hlt:k<s.Chans.length
  ·obtain⟨b,off,rfl,hbl,hrow⟩:=hc3 (by omega)
   obtain⟨u,hu0,hu1,hq⟩:=hrow k hlt
   have hWr:Below w.heap.size w wo:=FB.trans (hT.below FB.size (fun j hj=>by subst hj;omega))
   rw[← hWr.cell (p:=⟨b,off+k*2,none⟩) hbl]at hu0
   rw[← hWr.cell (p:=⟨b,off+k*2+1,none⟩) hbl]at hu1
   obtain⟨aq,capq,rfl,hq1,hq2,hq3⟩:=hq
   have HQ:Hid (s.Chans[k]?=some (s.Chans.getD k default)):=by unfold Hid;simp[List.getD,hlt]
   have hfit:=hs.q (s.Chans.getD k default) (Av hlt)
   clear hrow
   generalize s.Chans.getD k default=ch at *
   have hfq:=hfit.1
   have hfm:=Lib.hid hfit.2
   clear hfit
   unfold maxLen at hq2
   go_wp2
   have hfb:wl.heap.size<=wo.heap.size:=hT.size
   have G0:(wo.alloc (.cells #[.int .i64 ch.Shape,.slice aq ch.Queue.length capq] D1)).heap[wo.heap.size]?=some (.cells #[.int .i64 ch.Shape,.slice aq ch.Queue.length capq] D1 (0,0)):=heap_alloc_new wo _
   have G1:Below wo.heap.size wo (wo.alloc (.cells #[.int .i64 ch.Shape,.slice aq ch.Queue.length capq] D1)):=(Below.refl _ wo).alloc (Ak6 _) _
   have G2:(wo.alloc (.cells #[.int .i64 ch.Shape,.slice aq ch.Queue.length capq] D1)).heap.size=wo.heap.size+1:=by simp
   generalize wo.alloc (.cells #[.int .i64 ch.Shape,.slice aq ch.Queue.length capq] D1)=wb at *
   have HL:=Lib.hid hlt
   go_loopw [6,28] (fun qv i wr=>∃ (q0:Value) (j:Nat) (vs:List Value),q0=qv/\j<=ch.Queue.length/\i=.int .i64 j/\BN wr (wo.heap.size+1) q0 vs (ch.Queue.take j)/\Below (wo.heap.size+1) wb wr) (fun _ i _=>ch.Queue.length - (intOf i).toNat)
   case atStart=>exact⟨_,0,[],rfl,Alc _,rfl,BN.nil _ _,Below.refl _ _⟩
   case round =>
    obtain⟨qv,j,vs,rfl,hj,rfl,hQ,hBq⟩:=hrel
    have hsz:=hBq.size
    by_cases hjl:j<ch.Queue.length
    ·obtain⟨bq,offq,rfl,hbq,hrowq⟩:=hq3 (by omega)
     obtain⟨x,hx0,hx⟩:=hrowq j hjl
     have hWq:Below w.heap.size w wr:=(hWr.trans (G1.mono (by have:=hWr.size;omega))).trans (hBq.mono (by have:=hWr.size;omega))
     rw[← hWq.cell (p:=⟨bq,offq+j,none⟩) hbq]at hx0
     have hx':=hx.below hWq
     have HJ:Hid (ch.Queue[j]?=some (ch.Queue.getD j [])):=by unfold Hid;simp[List.getD,hjl]
     have hm8:=hfm.out (ch.Queue.getD j []) (Av hjl)
     clear hrowq hx
     generalize ch.Queue.getD j []=m at *
     obtain⟨ax,capx,rfl,hx1,hx2,hx3⟩:=id hx'
     have hQr:=hQ.row
     have hkl:(ch.Queue.take j).length=j:=by simp;omega
     rw[hkl]at hQr
     go_wp2_with (first | (go_at_call 30;refine(AhJ hx' hm8).mono ?_;rintro e w2 ⟨v',rfl,hm2,hb2⟩;obtain⟨ao',cap',rfl,_⟩:=Db hm2) | (at_builtin;refine wpList_append_own _ rfl _ _ 84 rfl (wo.heap.size+1) GS ki (.slice none 0 0) 1 24 Tryz.underlying84 khi khz0 khz1 khz2 rfl (by decide) qv j vs rfl ?qrow ⟨w2.heap.size,0,none⟩ 1 1 [.slice ao' m.length cap'] rfl ?qc1 ?qc2 ?qc3 ?qc4 ?qc5 ?qc6 ?_))
     case qrow=>exact B4 (B4 (ts:=[GS]) hQr (Cd.below hb2) (by simp)) (Cd.alloc (ts:=[GS]) _) (by simp)
     case qc1=>rfl
     case qc2=>exact World.news_of_block (heap_alloc_new w2 (.cells #[.slice ao' m.length cap'] GS))
     case qc3=>intro u hu;simp at hu;subst hu;rfl
     case qc4=>unfold maxLen;omega
     case qc5=>omega
     case qc6=>have:=hb2.size;simp;omega
     intro v2 w3 hown3 hgrow3 _
     have hz2:=hb2.size
     have HO:Hid (BN w3 (wo.heap.size+1) v2 (vs++[.slice ao' m.length cap']) (ch.Queue.take (j+1))):=by
      unfold Hid
      rw[GB HJ.out]
      refine BN.more ((hQ.kept (ts:=[GS,D2]) (Cd.below hb2) (by simp) (by simp)).kept (ts:=[GS,D2]) (Cd.alloc _) (by simp) (by simp)) (B4 (ts:=[D2]) (CH hm2 (by omega)) (Cd.alloc _) (by simp)) (by rw[hkl];exact hown3) hgrow3
     have HB:Hid (Below (wo.heap.size+1) wb w3):=((hBq.trans (hb2.mono (by omega))).alloc (by omega) _).grown hgrow3 (by simp;omega) (fun k hk=>(hQr.lt k hk).1)
     clear hown3 hgrow3 hm2 hb2 hQr hQ hBq
     go_wp2
     go_roundw
     case rel=>exact⟨v2,j+1,_,rfl,by omega,by go_num,HO.out,HB.out⟩
     case measure=>simp[intOf];omega
    ·obtain rfl:j=ch.Queue.length:=by omega
     rw[Ame]at hQ
     have hblkc:wr.heap[wo.heap.size]?=some (.cells #[.int .i64 ch.Shape,.slice aq ch.Queue.length capq] D1 (0,0)):=(hBq.block _ (by omega)).trans G0
     have hBo:w.heap.size+1+1<wo.heap.size:=by omega
     have hblkB:wr.heap[w.heap.size+1+1]?=some (.cells #[.slice aog s.Globals.length cg,ov,.slice none 0 0,.int .i64 s.Last,.int .i64 s.Alone,.int .i64 s.Claim] BG (0,0)):=((hBq.block _ (by omega)).trans (G1.block _ hBo)).trans hB
     have x0:wr.cell? ⟨wo.heap.size,0,none⟩=some (.int .i64 ch.Shape):=Aj hblkc rfl
     have x1:wr.cell? ⟨w.heap.size+1+1,1,none⟩=some ov:=Aj hblkB rfl
     have hCr:Hf wr wl.heap.size ov qs (s.Chans.take k):=hC.kept (ts:=[D1,GS,D2]) (Cd.of fun b _ hb=>(hBq.block b (by omega)).trans (G1.block b hb)) (by simp) (by simp) (by simp)
     have hkl:(s.Chans.take k).length=k:=by simp;omega
     have hCrow:=hCr.row
     rw[hkl]at hCrow
     obtain⟨aqq,cqq,rfl,_⟩:=Db hQ.row
     clear hC
     go_wp2_with (at_builtin;refine wpList_append_own _ rfl _ _ 32 rfl wl.heap.size D1 kc (.agg #[.int .i64 0,.slice none 0 0]) 2 32 Tryz.underlying32 khc kcz0 kcz1 kcz2 rfl (by decide) ov k (E7 (s.Chans.take k) qs) rfl ?qrow ⟨wr.heap.size,0,none⟩ 1 1 [.int .i64 ch.Shape,.slice aqq ch.Queue.length cqq] rfl ?qc1 ?qc2 ?qc3 ?qc4 ?qc5 ?qc6 ?_)
     case qrow=>exact B4 hCrow (Cd.alloc (ts:=[D1]) _) (by simp)
     case qc1=>rfl
     case qc2=>exact World.news_of_block (heap_alloc_new wr (.cells #[.int .i64 ch.Shape,.slice aqq ch.Queue.length cqq] D1))
     case qc3=>intro u hu;simp at hu;rcases hu with rfl | rfl<;>rfl
     case qc4=>have:=hs.c;unfold maxLen;omega
     case qc5=>have:=hs.c;omega
     case qc6=>simp;omega
     intro v2 w3 hown3 hgrow3 _
     have hblk3:w3.heap[w.heap.size+1+1]?=some (.cells #[.slice aog s.Globals.length cg,ov,.slice none 0 0,.int .i64 s.Last,.int .i64 s.Alone,.int .i64 s.Claim] BG (0,0)):=by
      rw[hgrow3.block _ (by simp<;>omega) (fun e=>by obtain⟨cur,hcur⟩:=AU hCrow e.symm;exact Ec hcur hblkB (by decide) rfl),Below.heap_alloc _ _ _ (BJ hblkB)];exact hblkB
     have e0:w3.cell? ⟨w.heap.size+1+1,1,none⟩=some ov:=Aj hblk3 rfl
     have e1:w3.frozen? ⟨w.heap.size+1+1,1,none⟩=false:=Ax hblk3
     have HC:Hid (Hf (w3.setCell ⟨w.heap.size+1+1,1,none⟩ v2) wl.heap.size v2 (qs++[.slice aqq ch.Queue.length cqq]) (s.Chans.take (k+1))):=by
      unfold Hid
      rw[GB HQ.out]
      exact Hf.kept (ts:=[D1,GS,D2]) (Hf.more (hCr.kept (ts:=[D1,GS,D2]) (Cd.alloc _) (by simp) (by simp) (by simp)) ((hQ.base (by omega)).kept (ts:=[GS,D2]) (Cd.alloc _) (by simp) (by simp)) (by rw[hkl];exact hown3) hgrow3) (Cd.set hblk3 (by decide)) (by simp) (by simp) (by simp)
     have HK:Hid ((w3.setCell ⟨w.heap.size+1+1,1,none⟩ v2).heap[w.heap.size+1+1]?=some (.cells #[.slice aog s.Globals.length cg,v2,.slice none 0 0,.int .i64 s.Last,.int .i64 s.Alone,.int .i64 s.Claim] BG (0,0))):=by
      unfold Hid;rw[A1 hblk3];rfl
     have HT:Hid (Ca wl (w3.setCell ⟨w.heap.size+1+1,1,none⟩ v2) (fun b=>b=w.heap.size+1+1)) :=
      ((((hT.trans (Ca.of_below (F:=fun _=>False) G1) (fun _ h=>h.elim)).trans (Ca.of_below (F:=fun _=>False) (G2 ▸ hBq)) (fun _ h=>h.elim)).alloc _).grown hgrow3 (fun k hk=>.inr (hCrow.lt k hk).1)).setCell (.inl rfl) _
     obtain⟨ao3,cap3,rfl,_⟩:=Db hown3
     clear hown3 hgrow3 hCrow hCr hblkB hblkc hQ hBq G0 G1 hblk3 x0 x1 hq3
     go_wp2
     go_roundw
     case rel=>exact⟨k+1,HL.out,by go_num,_,_,HK.out,HC.out,HT.out⟩
     case measure=>have:=HL.out;simp[intOf];omega
  ·obtain rfl:k=s.Chans.length:=by omega
   rw[Ame]at hC
   have hfb:wl.heap.size<=wo.heap.size:=hT.size
   have hWo:Below w.heap.size w wo:=FB.trans (hT.below FB.size (fun j hj=>by subst hj;omega))
   have f0:wo.heap[w.heap.size]?=_:=(hT.block _ (by omega) (fun e=>absurd (show w.heap.size=w.heap.size+1+1 from e) (by omega))).trans F0
   have f1:wo.heap[w.heap.size+1]?=_:=(hT.block _ (by omega) (fun e=>absurd (show w.heap.size+1=w.heap.size+1+1 from e) (by omega))).trans F1
   have s0:wo.cell? ⟨w.heap.size,2,none⟩=some (.slice ap s.Procs.length capp):=Aj f0 rfl
   have HG:Hid (I4 wo (w.heap.size+1+1+1) (.slice aog s.Globals.length cg) s.Globals):=CB FG fun b hb=>hT.block b (FG.lt b hb).2 (fun e=>by have:=(FG.lt b hb).1;omega)
   have HG1:Hid (∀ b,(Value.slice aog s.Globals.length cg).ownBlock=some b->b<wl.heap.size):=fun b hb=>(FG.lt b hb).2
   clear FG F0 F1 F2 hg3 hc3
   go_wp2
   go_loopw [51] (fun i wr=>∃ k:Nat,k<=s.Procs.length/\i=.int .i64 k/\∃ pv fs,wr.heap[w.heap.size+1+1]?=some (.cells #[.slice aog s.Globals.length cg,ov,pv,.int .i64 s.Last,.int .i64 s.Alone,.int .i64 s.Claim] BG (0,0))/\FL wr wo.heap.size pv fs (s.Procs.take k)/\Ca wo wr (fun b=>b=w.heap.size+1+1)) (fun i _=>s.Procs.length - (intOf i).toNat)
   case atStart=>exact⟨0,Alc _,rfl,.slice none 0 0,[],hB,FL.nil _ _,Ca.refl _ _⟩
   case round =>
    obtain⟨k,hk,rfl,pv,fs,hB2,hP,hT2⟩:=hrel
    have hsz2:=hT2.size
    by_cases hlt:k<s.Procs.length
    ·obtain⟨b,off,rfl,hbl,hrow⟩:=hp3 (by omega)
     obtain⟨u,hu0,hu1,hu2,hu3,hq⟩:=hrow k hlt
     have hWr:Below w.heap.size w wr:=hWo.trans (hT2.below hWo.size (fun j hj=>by subst hj;omega))
     rw[← hWr.cell (p:=⟨b,off+k*4,none⟩) hbl]at hu0
     rw[← hWr.cell (p:=⟨b,off+k*4+1,none⟩) hbl]at hu1
     rw[← hWr.cell (p:=⟨b,off+k*4+2,none⟩) hbl]at hu2
     rw[← hWr.cell (p:=⟨b,off+k*4+3,none⟩) hbl]at hu3
     have hx':=hq.below hWr
     have HQ:Hid (s.Procs[k]?=some (s.Procs.getD k default)):=by unfold Hid;simp[List.getD,hlt]
     have hm8:=hs.f (s.Procs.getD k default) (Av hlt)
     clear hrow hq
     generalize s.Procs.getD k default=ch at *
     obtain⟨aq,capq,rfl,hq1,hq2,hq3⟩:=id hx'
     clear hq3
     unfold maxLen at hq2
     have hPr:=hP.row
     have hkl:(s.Procs.take k).length=k:=by simp;omega
     rw[hkl]at hPr
     have HL:=Lib.hid hlt
     go_wp2_with (first | (go_at_call 24;refine(Z4 (hx'.alloc _) hm8).mono ?_;rintro e w2 ⟨v',rfl,hm2,hb2⟩;obtain⟨ao',cap',rfl,_⟩:=Db hm2;obtain⟨cc2,cf2⟩:=Af0 hb2;have hblkB2:=(hb2.block _ (Alr (BJ hB2) (by simp))).trans ((Below.heap_alloc _ _ _ (BJ hB2)).trans hB2);have y2:w2.cell? ⟨w.heap.size+1+1,2,none⟩=some pv:=Aj hblkB2 rfl) | (at_builtin;refine wpList_append_own _ rfl _ _ 33 rfl wo.heap.size Eo kp (.agg #[.int .i64 0,.int .i64 0,.int .i64 0,.slice none 0 0]) 4 48 Tryz.underlying33 khp kpz0 kpz1 kpz2 rfl (by decide) pv k (Dy (s.Procs.take k) fs) rfl ?qrow ⟨w2.heap.size,0,none⟩ 1 1 [.int .i64 ch.Type_,.int .i64 ch.Loc,.int .i64 ch.Prio,.slice ao' ch.Frame.length cap'] rfl ?qc1 ?qc2 ?qc3 ?qc4 ?qc5 ?qc6 ?_))
     case qrow =>
      have K:Cd wr (w2.setCell ⟨wr.heap.size,3,none⟩ (.slice ao' ch.Frame.length cap')) wo.heap.size [Eo]:=Cd.of fun b _ hb=>(Below.heap_setCell _ _ _ _ (by simp;omega)).trans ((hb2.block b (by simp;omega)).trans (Below.heap_alloc _ _ _ hb))
      exact B4 (B4 hPr K (by simp)) (Cd.alloc (ts:=[Eo]) _) (by simp)
     case qc1=>rfl
     case qc2 =>
      have:=World.news_of_block (heap_alloc_new (w2.setCell ⟨wr.heap.size,3,none⟩ (.slice ao' ch.Frame.length cap')) (.cells #[.int .i64 ch.Type_,.int .i64 ch.Loc,.int .i64 ch.Prio,.slice ao' ch.Frame.length cap'] Eo))
      simpa using this
     case qc3=>intro u hu;simp at hu;rcases hu with rfl | rfl | rfl | rfl<;>rfl
     case qc4=>have:=hs.p;unfold maxLen;omega
     case qc5=>have:=hs.p;omega
     case qc6=>have:=hb2.size;simp at this;simp;omega
     intro v2 w3 hown3 hgrow3 _
     have hz2:=hb2.size
     simp at hz2
     have hblkz:(w2.setCell ⟨wr.heap.size,3,none⟩ (.slice ao' ch.Frame.length cap')).heap[w.heap.size+1+1]?=some (.cells #[.slice aog s.Globals.length cg,ov,pv,.int .i64 s.Last,.int .i64 s.Alone,.int .i64 s.Claim] BG (0,0)) :=
      (Below.heap_setCell _ _ _ _ (by simp;omega)).trans hblkB2
     have hblk3:w3.heap[w.heap.size+1+1]?=some (.cells #[.slice aog s.Globals.length cg,ov,pv,.int .i64 s.Last,.int .i64 s.Alone,.int .i64 s.Claim] BG (0,0)):=by
      rw[hgrow3.block _ (by simp;omega) (fun e=>by obtain⟨cur,hcur⟩:=AU hPr e.symm;exact Ec hcur hB2 (by decide) rfl),Below.heap_alloc _ _ _ (BJ hblkz)];exact hblkz
     have e0:w3.cell? ⟨w.heap.size+1+1,2,none⟩=some pv:=Aj hblk3 rfl
     have e1:w3.frozen? ⟨w.heap.size+1+1,2,none⟩=false:=Ax hblk3
     have hPz:FL ((w2.setCell ⟨wr.heap.size,3,none⟩ (.slice ao' ch.Frame.length cap')).alloc (.cells #[.int .i64 ch.Type_,.int .i64 ch.Loc,.int .i64 ch.Prio,.slice ao' ch.Frame.length cap'] Eo)) wo.heap.size pv fs (s.Procs.take k):=by
      have K:Cd wr (w2.setCell ⟨wr.heap.size,3,none⟩ (.slice ao' ch.Frame.length cap')) wo.heap.size [Eo,D2]:=Cd.of fun b _ hb=>(Below.heap_setCell _ _ _ _ (by simp;omega)).trans ((hb2.block b (by simp;omega)).trans (Below.heap_alloc _ _ _ hb))
      exact(hP.kept K (by simp) (by simp)).kept (ts:=[Eo,D2]) (Cd.alloc _) (by simp) (by simp)
     have hFz:I4 ((w2.setCell ⟨wr.heap.size,3,none⟩ (.slice ao' ch.Frame.length cap')).alloc (.cells #[.int .i64 ch.Type_,.int .i64 ch.Loc,.int .i64 ch.Prio,.slice ao' ch.Frame.length cap'] Eo)) (wr.heap.size+1) (.slice ao' ch.Frame.length cap') ch.Frame :=
      B4 (ts:=[D2]) (B4 (ts:=[D2]) (CH hm2 (by simp)) (Cd.low (by simp)) (by simp)) (Cd.alloc _) (by simp)
     have HP:Hid (FL (w3.setCell ⟨w.heap.size+1+1,2,none⟩ v2) wo.heap.size v2 (fs++[.slice ao' ch.Frame.length cap']) (s.Procs.take (k+1))):=by
      unfold Hid
      rw[GB HQ.out]
      refine FL.kept (ts:=[Eo,D2]) (FL.more hPz (CH hFz (by omega)) (fun i x b hx hb e=>?_) (by rw[hkl];exact hown3) hgrow3) (Cd.set hblk3 (by decide)) (by simp) (by simp)
      have hi:i<fs.length:=(Ak3.1 hx).1
      rw[hP.len]at hi
      have h1:=((hP.each i x _ hx (Ald hi)).lt b hb).2
      have h2:=(hFz.lt b e).1
      omega
     have HK:Hid ((w3.setCell ⟨w.heap.size+1+1,2,none⟩ v2).heap[w.heap.size+1+1]?=some (.cells #[.slice aog s.Globals.length cg,ov,v2,.int .i64 s.Last,.int .i64 s.Alone,.int .i64 s.Claim] BG (0,0))):=by
      unfold Hid;rw[A1 hblk3];rfl
     have HT:Hid (Ca wo (w3.setCell ⟨w.heap.size+1+1,2,none⟩ v2) (fun b=>b=w.heap.size+1+1)) :=
      ((((((hT2.alloc _).trans (Ca.of_below (F:=fun _=>False) hb2) (fun _ h=>h.elim)).setCell (.inr hsz2) _).alloc _).grown hgrow3 (fun k hk=>.inr (hPr.lt k hk).1)).setCell (.inl rfl) _)
     obtain⟨ao3,cap3,rfl,_⟩:=Db hown3
     clear hown3 hgrow3 hPr hP hPz hFz hblkz hblkB2 hB2 hm2 hb2 cc2 cf2 hblk3 hT2 hx' y2
     go_wp2
     go_roundw
     case rel=>exact⟨k+1,HL.out,by go_num,_,_,HK.out,HP.out,HT.out⟩
     case measure=>have:=HL.out;simp[intOf];omega
    ·obtain rfl:k=s.Procs.length:=by omega
     rw[Ame]at hP
     have b1:wr.heap[w.heap.size+1]?=_:=(hT2.block _ (by omega) (fun e=>absurd (show w.heap.size+1=w.heap.size+1+1 from e) (by omega))).trans f1
     have c0:wr.cell? ⟨w.heap.size+1+1,0,none⟩=_:=Aj hB2 rfl
     have c1:wr.cell? ⟨w.heap.size+1+1,1,none⟩=_:=Aj hB2 rfl
     have c2:wr.cell? ⟨w.heap.size+1+1,2,none⟩=_:=Aj hB2 rfl
     have c3:wr.cell? ⟨w.heap.size+1+1,3,none⟩=_:=Aj hB2 rfl
     have c4:wr.cell? ⟨w.heap.size+1+1,4,none⟩=_:=Aj hB2 rfl
     have c5:wr.cell? ⟨w.heap.size+1+1,5,none⟩=_:=Aj hB2 rfl
     have d0:wr.cell? ⟨w.heap.size+1,0,none⟩=_:=Aj b1 rfl
     have d1:wr.cell? ⟨w.heap.size+1,1,none⟩=_:=Aj b1 rfl
     have d2:wr.cell? ⟨w.heap.size+1,2,none⟩=_:=Aj b1 rfl
     have d3:wr.cell? ⟨w.heap.size+1,3,none⟩=_:=Aj b1 rfl
     have d4:wr.cell? ⟨w.heap.size+1,4,none⟩=_:=Aj b1 rfl
     have d5:wr.cell? ⟨w.heap.size+1,5,none⟩=_:=Aj b1 rfl
     have g0:wr.frozen? ⟨w.heap.size+1,0,none⟩=_:=Ax b1
     have g1:wr.frozen? ⟨w.heap.size+1,1,none⟩=_:=Ax b1
     have g2:wr.frozen? ⟨w.heap.size+1,2,none⟩=_:=Ax b1
     have g3:wr.frozen? ⟨w.heap.size+1,3,none⟩=_:=Ax b1
     have g4:wr.frozen? ⟨w.heap.size+1,4,none⟩=_:=Ax b1
     have g5:wr.frozen? ⟨w.heap.size+1,5,none⟩=_:=Ax b1
     obtain⟨aov,cov,rfl,_⟩:=Db hC.row
     obtain⟨apv,cpv,rfl,_⟩:=Db hP.row
     go_wp2
     have hres:=MJ b1 (.slice aog s.Globals.length cg) (.slice aov s.Chans.length cov) (.slice apv s.Procs.length cpv) (.int .i64 s.Last) (.int .i64 s.Alone) (.int .i64 s.Claim)
     have hT3:=H6 (w:=wr) (b:=w.heap.size+1) (.slice aog s.Globals.length cg) (.slice aov s.Chans.length cov) (.slice apv s.Procs.length cpv) (.int .i64 s.Last) (.int .i64 s.Alone) (.int .i64 s.Claim)
     have hz3:=Aed (w:=wr) (b:=w.heap.size+1) (.slice aog s.Globals.length cg) (.slice aov s.Chans.length cov) (.slice apv s.Procs.length cpv) (.int .i64 s.Last) (.int .i64 s.Alone) (.int .i64 s.Claim)
     refine Ry rfl rfl hres Tryz.underlying35 rfl (by kernel_rfl) rfl ?_
     generalize ((((((wr.setCell ⟨w.heap.size+1,0,none⟩ (.slice aog s.Globals.length cg)).setCell ⟨w.heap.size+1,1,none⟩ (.slice aov s.Chans.length cov)).setCell ⟨w.heap.size+1,2,none⟩ (.slice apv s.Procs.length cpv)).setCell ⟨w.heap.size+1,3,none⟩ (.int .i64 s.Last)).setCell ⟨w.heap.size+1,4,none⟩ (.int .i64 s.Alone)).setCell ⟨w.heap.size+1,5,none⟩ (.int .i64 s.Claim))=wz at *
     have hWr:Below w.heap.size w wr:=hWo.trans (hT2.below hWo.size (fun j hj=>by subst hj;omega))
     have hGr:I4 wr (w.heap.size+1+1+1) (.slice aog s.Globals.length cg) s.Globals:=CB HG.out fun b hb=>hT2.block b (HG.out.lt b hb).2 (fun e=>by have:=(HG.out.lt b hb).1;omega)
     refine⟨_,_,_,wl.heap.size,qs,fs,wo,rfl,⟨?_,HG1.out,FB.size,hfb,hC,fun b h1 h2=>?_,?_,?_⟩⟩
     ·exact CH (CB hGr fun b hb=>hT3.block b (hGr.lt b hb).2 (fun e=>by have:=(hGr.lt b hb).1;omega)) (by omega)
     ·exact(hT3.block b (by omega) (fun e=>by have e:b=w.heap.size+1:=e;omega)).trans (hT2.block b h2 (fun e=>by have e:b=w.heap.size+1+1:=e;omega))
     ·exact hP.kept (ts:=[Eo,D2]) (Cd.of fun b h1 h2=>hT3.block b h2 (fun e=>by have e:b=w.heap.size+1:=e;omega)) (by simp) (by simp)
     ·exact hWr.trans (hT3.below hWr.size (fun j hj=>by have hj:j=w.heap.size+1:=hj;omega))
def QF : Ann:={ keep:=fun
  | [0,1,0,1,1,1,1,1,1]=>[0,8,10,46,47,48]
  | _=>[] }
def MM : Ann:={ keep:=fun
  | [0,1,0,1,1,1,1,1,1]=>[0,3,8,9,51,52,53]
  | _=>[] }
def I3 : Ann:={ keep:=fun
  | [0,1,0,1]=>[0,9,10,11]
  | _=>[] }
def NE : Ann:={ keep:=fun
  | [0,1,0,1]=>[0,1,7,8]
  | _=>[] }
def QJ : Ann:={ keep:=fun
  | [0,1,0,1]=>[1,2,3,12,13,14]
  | _=>[] }
def QI : Ann:={ keep:=fun
  | [0,1,0,1,1]=>[0,1,21,22,23]
  | _=>[] }
def Dz : Ann:={ cut:=(fun | 1::0::1::1::0::0::0::0::q=>Nat.beq q.length 29 | 1::0::1::1::1::0::0::0::0::q=>Nat.beq q.length 29 | _=>false),keep:=fun
  | 1::0::1::1::0::0::0::0::q=>bif Nat.beq q.length 29 then[0,6,21,26] else[]
  | 1::0::1::1::1::0::0::0::0::q=>bif Nat.beq q.length 29 then[0,6,21,30] else[]
  | _=>[] }
def Ag3 : List Nat:=[1,1,0,1,0,0,0,0,0,0,0,0,0,0,0,0,0,0,0,0,0,0,0,0,0,0,0,0,0,0,0,0,0,1,1,0,1]
def Ab8 : List Nat:=[1,1,0,1,0,0,0,0,0,0,0,0,0,0,0,0,0,0,0,0,0,0,0,0,0,0,0,0,0,0,0,0,0,1,1,1,0,1]
def Hz (e:D.Env)(x:D.Expr)(i:Nat)(b:Bool):St:=Aq [(0,.tp (Af e)),(6,.bp 0 0),(21,Aa x.Op),(i,Ac b)] [.box (AS x)]
def PD (e:D.Env)(ds:List D.Dim)(who at' k:Int):St:=Aq [(0,.tp (Af e)),(8,Aa who),(10,Aa at'),(46,Dc true ds),(47,Aa ds.length),(48,Aa k)] []
def Xa (e:D.Env)(x:D.Expr)(c:D.Chan)(l:List Int)(k:Int):St:=Aq [(0,.tp (Af e)),(3,.bp 0 0),(8,.bp 1 0),(9,.ow 2 0 l.length),(51,Ad true x.Args),(52,Aa x.Args.length),(53,Aa k)] [.box (AS x),.box (AB c),.arr true 0 l.length 1 (AM l)]
def SK (e:D.Env)(k:Int):St:=Aq [(0,.tp (Af e)),(9,Au true e.S.Procs),(10,Aa e.S.Procs.length),(11,Aa k)] []
def Za (l:List Int)(v k:Int):St:=Aq [(0,Ad true l),(1,Aa v),(7,Aa l.length),(8,Aa k)] []
def SO (c:D.Chan)(l mt:List Int)(any:Bool)(k:Int):St:=Aq [(1,Ad false l),(2,Ad true mt),(3,Ac any),(12,BI true c.Queue),(13,Aa c.Queue.length),(14,Aa k)] []
def SM (x l mt:List Int)(k:Int):St:=Aq [(0,Ad true x),(1,Ad false l),(21,Ad true mt),(22,Aa mt.length),(23,Aa k)] []
set_option maxRecDepth 100000
theorem VA (r:Int)(e:D.Env)(x:Int):(fc C5 AT Tryz.f93 [] (Aa r)).goal (St.init [] [.agg (Af e),Aa x]) =
  (∃ (y:Int),VC 38 [VV.agg (Ag e.M),VV.agg (Ae e.S)] (Aa y)/\BB (y != 0) (LQ (Aa y) (Aa r)) (BB (bif bif bif decide (e.Pid<(-1:Int)) then true else decide (e.Pid>=(↑e.S.Procs.length:Int)) then true else decide (x<0) then true else decide (x>=(↑e.M.Exprs.length:Int))) (LQ (Aa 42) (Aa r)) (LQ (Aa 0) (Aa r)))):=by kernel_rfl
theorem Ac5 (v r:Int)(e:D.Env)(x:Int):(fc C5 AT Tryz.f61 [] (.tup [Aa v,Aa r])).goal (St.init [] [.agg (Af e),Aa x]) =
  (∃ (y:Int),VC 93 [VV.agg (Af e),Aa x] (Aa y)/\BB (y != 0) (LQ (VV.tup [Aa 0,Aa y]) (VV.tup [Aa v,Aa r])) (∃ (y:Int × Int),VC 94 [VV.tp (Af e),Aa x] (VV.tup [Aa y.fst,Aa y.snd])/\LQ (VV.tup [Aa y.fst,Aa y.snd]) (VV.tup [Aa v,Aa r]))):=by kernel_rfl
theorem Ac6 (v r:Int)(e:D.Env)(x:Int):(fc C5 AT Tryz.f183 [] (.tup [Aa v,Aa r])).goal (St.init [] [.agg (Af e),Aa x]) =
  (∃ (y:Int),VC 93 [VV.agg (Af e),Aa x] (Aa y)/\BB (y != 0) (LQ (VV.tup [Aa 0,Aa y]) (VV.tup [Aa v,Aa r])) (∃ (y:Int × Int),VC 171 [VV.tp (Af e),Aa x] (VV.tup [Aa y.fst,Aa y.snd])/\LQ (VV.tup [Aa y.fst,Aa y.snd]) (VV.tup [Aa v,Aa r]))):=by kernel_rfl
theorem AaX (v r:Int)(c:Bool):(fc C5 AT Tryz.f132 [] (.tup [Aa v,Aa r])).goal (St.init [] [Ac c]) =
  (BB c (LQ (VV.tup [Aa 1,Aa 0]) (VV.tup [Aa v,Aa r])) (LQ (VV.tup [Aa 0,Aa 0]) (VV.tup [Aa v,Aa r]))):=by kernel_rfl
theorem Yb (v r:Int)(e:D.Env)(x:D.Var):(fc C5 AT Tryz.f169 [] (.tup [Aa v,Aa r])).goal (St.init [] [.tp (Af e),.agg (Cq x)]) =
  (BB (x.Scope==0) (∃ (y:Int),VC 116 [VV.agg (Cq x)] (Aa y)/\BB (decide (y > (↑e.S.Globals.length:Int))) (LQ (VV.tup [Aa 0,Aa 42]) (VV.tup [Aa v,Aa r])) (LQ (VV.tup [Aa (-1),Aa 0]) (VV.tup [Aa v,Aa r]))) (BB (x.Scope==1) (∃ (y:Int),((true&&decide (e.Pid<0)==false)=true->VC 116 [VV.agg (Cq x)] (Aa y))/\((true&&decide (e.Pid<0)==false)=true->inX e.Pid e.S.Procs.length)/\BB (bif decide (e.Pid<0) then true else decide (y > (↑(e.S.Procs.getD e.Pid.toNat default).Frame.length:Int))) (LQ (VV.tup [Aa 0,Aa 42]) (VV.tup [Aa v,Aa r])) (LQ (VV.tup [Aa e.Pid,Aa 0]) (VV.tup [Aa v,Aa r]))) (∃ (y:Int × Int),VC 94 [VV.tp (Af e),Aa x.Who] (VV.tup [Aa y.fst,Aa y.snd])/\BB (y.snd != 0) (LQ (VV.tup [Aa 0,Aa y.snd]) (VV.tup [Aa v,Aa r])) (((true&&(bif decide (y.fst<0) then true else decide (y.fst>=(↑e.S.Procs.length:Int)))==false)=true->inX y.fst e.S.Procs.length)/\BB (bif bif decide (y.fst<0) then true else decide (y.fst>=(↑e.S.Procs.length:Int)) then true else(e.S.Procs.getD y.fst.toNat default).Type_ != x.Type_) (LQ (VV.tup [Aa 0,Aa 52]) (VV.tup [Aa v,Aa r])) (∃ (y_1:Int),VC 116 [VV.agg (Cq x)] (Aa y_1)/\inX y.fst e.S.Procs.length/\BB (decide (y_1 > (↑(e.S.Procs.getD y.fst.toNat default).Frame.length:Int))) (LQ (VV.tup [Aa 0,Aa 42]) (VV.tup [Aa v,Aa r])) (LQ (VV.tup [Aa y.fst,Aa 0]) (VV.tup [Aa v,Aa r]))))))):=by kernel_rfl
theorem Aec (p k r:Int)(e:D.Env)(x:Int):(fc C5 QF Tryz.f128 [] (.tup [Aa p,Aa k,Aa r])).goal (St.init [] [.tp (Af e),Aa x]) =
  (inX x e.M.Exprs.length/\inX x e.M.Exprs.length/\BB ((e.M.Exprs.getD x.toNat default).Op != 2) (LQ (VV.tup [Aa 0,Aa 0,Aa 42]) (VV.tup [Aa p,Aa k,Aa r])) (∃ (y:Int × Int),VC 169 [VV.tp (Af e),VV.agg (Cq (e.M.Exprs.getD x.toNat default).V)] (VV.tup [Aa y.fst,Aa y.snd])/\BB (y.snd != 0) (LQ (VV.tup [Aa 0,Aa 0,Aa y.snd]) (VV.tup [Aa p,Aa k,Aa r])) (AA (fc C5 QF Tryz.f128 [] (VV.tup [Aa p,Aa k,Aa r])) [1,1,1,1,1,1,0,1,0] (PD e (e.M.Exprs.getD x.toNat default).V.Dims y.fst (e.M.Exprs.getD x.toNat default).V.Slot (0:Int))))):=by kernel_rfl
theorem AaA (v r:Int)(e:D.Env)(x:Int):(fc C5 AT Tryz.f171 [] (.tup [Aa v,Aa r])).goal (St.init [] [.tp (Af e),Aa x]) =
  (∃ (y:Int × Int),VC 94 [VV.tp (Af e),Aa x] (VV.tup [Aa y.fst,Aa y.snd])/\BB (y.snd != 0) (LQ (VV.tup [Aa 0,Aa y.snd]) (VV.tup [Aa v,Aa r])) (BB (bif decide (y.fst<1) then true else decide (y.fst > (↑e.S.Chans.length:Int))) (LQ (VV.tup [Aa 0,Aa 49]) (VV.tup [Aa v,Aa r])) (LQ (VV.tup [Aa y.fst,Aa 0]) (VV.tup [Aa v,Aa r])))):=by kernel_rfl
theorem Af2 (v r:Int)(e:D.Env)(x:D.Expr):(fc C5 AT Tryz.f130 [] (.tup [Aa v,Aa r])).goal (St.init [] [.tp (Af e),.agg (AS x)]) =
  (∃ (y:Int × Int),VC 171 [VV.tp (Af e),Aa x.A] (VV.tup [Aa y.fst,Aa y.snd])/\BB (y.snd != 0) (LQ (VV.tup [Aa 0,Aa y.snd]) (VV.tup [Aa v,Aa r])) (inX (IntKind.i64.wrap (y.fst - (1:Int))) e.S.Chans.length/\inX (e.S.Chans.getD (IntKind.i64.wrap (y.fst - (1:Int))).toNat default).Shape e.M.Shapes.length/\BB (x.Op==25) (LQ (VV.tup [Aa (↑(e.S.Chans.getD (IntKind.i64.wrap (y.fst - (1:Int))).toNat default).Queue.length:Int),Aa 0]) (VV.tup [Aa v,Aa r])) (BB (x.Op==26) (∃ (y_1:Int × Int),VC 132 [Ac (decide ((↑(e.S.Chans.getD (IntKind.i64.wrap (y.fst - (1:Int))).toNat default).Queue.length:Int)>=(e.M.Shapes.getD (e.S.Chans.getD (IntKind.i64.wrap (y.fst - (1:Int))).toNat default).Shape.toNat default).Room))] (VV.tup [Aa y_1.fst,Aa y_1.snd])/\LQ (VV.tup [Aa y_1.fst,Aa y_1.snd]) (VV.tup [Aa v,Aa r])) (BB (x.Op==28) (∃ (y_1:Int × Int),VC 132 [Ac (decide ((↑(e.S.Chans.getD (IntKind.i64.wrap (y.fst - (1:Int))).toNat default).Queue.length:Int)<(e.M.Shapes.getD (e.S.Chans.getD (IntKind.i64.wrap (y.fst - (1:Int))).toNat default).Shape.toNat default).Room))] (VV.tup [Aa y_1.fst,Aa y_1.snd])/\LQ (VV.tup [Aa y_1.fst,Aa y_1.snd]) (VV.tup [Aa v,Aa r])) (BB (x.Op==27) (∃ (y_1:Int × Int),VC 132 [Ac ((↑(e.S.Chans.getD (IntKind.i64.wrap (y.fst - (1:Int))).toNat default).Queue.length:Int)==0)] (VV.tup [Aa y_1.fst,Aa y_1.snd])/\LQ (VV.tup [Aa y_1.fst,Aa y_1.snd]) (VV.tup [Aa v,Aa r])) (∃ (y_1:Int × Int),VC 132 [Ac (decide ((↑(e.S.Chans.getD (IntKind.i64.wrap (y.fst - (1:Int))).toNat default).Queue.length:Int) > 0))] (VV.tup [Aa y_1.fst,Aa y_1.snd])/\LQ (VV.tup [Aa y_1.fst,Aa y_1.snd]) (VV.tup [Aa v,Aa r]))))))):=by kernel_rfl
theorem AeV (v r:Int)(e:D.Env)(x:D.Expr):(fc C5 MM Tryz.f131 [] (.tup [Aa v,Aa r])).goal (St.init [] [.tp (Af e),.agg (AS x)]) =
  (∃ (y:Int × Int),VC 171 [VV.tp (Af e),Aa x.A] (VV.tup [Aa y.fst,Aa y.snd])/\BB (y.snd != 0) (LQ (VV.tup [Aa 0,Aa y.snd]) (VV.tup [Aa v,Aa r])) (inX (IntKind.i64.wrap (y.fst - (1:Int))) e.S.Chans.length/\inX (e.S.Chans.getD (IntKind.i64.wrap (y.fst - (1:Int))).toNat default).Shape e.M.Shapes.length/\BB ((↑(e.M.Shapes.getD (e.S.Chans.getD (IntKind.i64.wrap (y.fst - (1:Int))).toNat default).Shape.toNat default).Fields.length:Int) != (↑x.Args.length:Int)) (LQ (VV.tup [Aa 0,Aa 49]) (VV.tup [Aa v,Aa r])) (((0:Int)<=(↑x.Args.length:Int)/\(↑x.Args.length:Int)<=(↑x.Args.length:Int)/\(↑x.Args.length:Int)*(↑8:Int)<=140737488355328)/\AA (fc C5 MM Tryz.f131 [] (VV.tup [Aa v,Aa r])) [1,1,1,1,1,1,0,1,0] (Aq [(0,VV.tp (Af e)),(3,VV.bp 0 0),(8,VV.bp 1 0),(9,VV.ow 2 0 (↑x.Args.length:Int).toNat),(51,Ad true x.Args),(52,Aa (↑x.Args.length:Int)),(53,Aa 0)] [Ob.box (AS x),Ob.box (AB (e.S.Chans.getD (IntKind.i64.wrap (y.fst - (1:Int))).toNat default)),Ob.arr true 0 (↑x.Args.length:Int).toNat 1 fun(_:Nat)=>((fc C5 MM Tryz.f131 [] (VV.tup [Aa v,Aa r])).T 2).zero])))):=by kernel_rfl
theorem Xr (v r:Int)(e:D.Env)(x:D.Expr):(fc C5 AT Tryz.f134 [] (.tup [Aa v,Aa r])).goal (St.init [] [.tp (Af e),.agg (AS x)]) =
  (∃ (y:Int × Int),VC 94 [VV.tp (Af e),Aa x.A] (VV.tup [Aa y.fst,Aa y.snd])/\BB (y.snd != 0) (LQ (VV.tup [Aa 0,Aa y.snd]) (VV.tup [Aa v,Aa r])) (((true&&(bif decide (y.fst<0) then true else decide (y.fst>=(↑e.S.Procs.length:Int)))==false&&(x.Op==38)==true)=true->inX y.fst e.S.Procs.length)/\BB (bif bif decide (y.fst<0) then true else decide (y.fst>=(↑e.S.Procs.length:Int)) then true else bif x.Op==38 then(e.S.Procs.getD y.fst.toNat default).Type_ != x.N else false) (LQ (VV.tup [Aa 0,Aa 52]) (VV.tup [Aa v,Aa r])) (BB (x.Op==37) (inX y.fst e.S.Procs.length/\LQ (VV.tup [Aa (e.S.Procs.getD y.fst.toNat default).Loc,Aa 0]) (VV.tup [Aa v,Aa r])) (inX y.fst e.S.Procs.length/\∃ (y_1:Bool),VC 173 [Ad true x.Args,Aa (e.S.Procs.getD y.fst.toNat default).Loc] (Ac y_1)/\∃ (y:Int × Int),VC 132 [Ac y_1] (VV.tup [Aa y.fst,Aa y.snd])/\LQ (VV.tup [Aa y.fst,Aa y.snd]) (VV.tup [Aa v,Aa r]))))):=by kernel_rfl
theorem Acv (v r:Int)(e:D.Env)(x:D.Expr):(fc C5 AT Tryz.f129 [] (.tup [Aa v,Aa r])).goal (St.init [] [.tp (Af e),.agg (AS x)]) =
  (∃ (y:Int × Int),VC 94 [VV.tp (Af e),Aa x.A] (VV.tup [Aa y.fst,Aa y.snd])/\BB (y.snd != 0) (LQ (VV.tup [Aa 0,Aa y.snd]) (VV.tup [Aa v,Aa r])) (BB (bif x.Op==24 then y.fst != 0 else false) (∃ (y:Int × Int),VC 170 [Aa x.B,VV.tp [VV.tp (Af e)]] (VV.tup [Aa y.fst,Aa y.snd])/\LQ (VV.tup [Aa y.fst,Aa y.snd]) (VV.tup [Aa v,Aa r])) (BB (x.Op==24) (∃ (y:Int × Int),VC 170 [Aa x.C,VV.tp [VV.tp (Af e)]] (VV.tup [Aa y.fst,Aa y.snd])/\LQ (VV.tup [Aa y.fst,Aa y.snd]) (VV.tup [Aa v,Aa r])) (BB (bif bif x.Op==22 then y.fst==0 else false then true else bif x.Op==23 then y.fst != 0 else false) (∃ (y_1:Int × Int),VC 132 [Ac (y.fst != 0)] (VV.tup [Aa y_1.fst,Aa y_1.snd])/\LQ (VV.tup [Aa y_1.fst,Aa y_1.snd]) (VV.tup [Aa v,Aa r])) (∃ (y:Int × Int),VC 170 [Aa x.B,VV.tp [VV.tp (Af e)]] (VV.tup [Aa y.fst,Aa y.snd])/\BB (y.snd != 0) (LQ (VV.tup [Aa 0,Aa y.snd]) (VV.tup [Aa v,Aa r])) (∃ (y_1:Int × Int),VC 132 [Ac (y.fst != 0)] (VV.tup [Aa y_1.fst,Aa y_1.snd])/\LQ (VV.tup [Aa y_1.fst,Aa y_1.snd]) (VV.tup [Aa v,Aa r]))))))):=by kernel_rfl
theorem AdW (v r:Int)(e:D.Env)(x:D.Expr):(fc C5 AT Tryz.f135 [] (.tup [Aa v,Aa r])).goal (St.init [] [.tp (Af e),.agg (AS x)]) =
  (∃ (y:Int × Int),VC 94 [VV.tp (Af e),Aa x.A] (VV.tup [Aa y.fst,Aa y.snd])/\BB (y.snd != 0) (LQ (VV.tup [Aa 0,Aa y.snd]) (VV.tup [Aa v,Aa r])) (BB (bif bif x.Op==3 then true else x.Op==4 then true else x.Op==5) (∃ (y_1:Int × Int),VC 174 [Aa x.Op,Aa y.fst] (VV.tup [Aa y_1.fst,Aa y_1.snd])/\LQ (VV.tup [Aa y_1.fst,Aa y_1.snd]) (VV.tup [Aa v,Aa r])) (∃ (y_1:Int × Int),VC 94 [VV.tp (Af e),Aa x.B] (VV.tup [Aa y_1.fst,Aa y_1.snd])/\BB (y_1.snd != 0) (LQ (VV.tup [Aa 0,Aa y_1.snd]) (VV.tup [Aa v,Aa r])) (∃ (y_2:Int × Int),VC 175 [Aa x.Op,Aa y.fst,Aa y_1.fst] (VV.tup [Aa y_2.fst,Aa y_2.snd])/\LQ (VV.tup [Aa y_2.fst,Aa y_2.snd]) (VV.tup [Aa v,Aa r]))))):=by kernel_rfl
theorem S4 (b:Bool)(e:D.Env):(fc C5 I3 Tryz.f133 [] (Ac b)).goal (St.init [] [.tp (Af e)]) =
  (AA (fc C5 I3 Tryz.f133 [] (Ac b)) [1,0,1,0] (SK e (0:Int))):=by kernel_rfl
theorem AfC (v r:Int)(e:D.Env)(x:Int):(fc C5 Dz Tryz.f94 [] (.tup [Aa v,Aa r])).goal (St.init [] [.tp (Af e),Aa x]) =
  (inX x e.M.Exprs.length/\BB ((e.M.Exprs.getD x.toNat default).Op==1) (LQ (VV.tup [Aa (e.M.Exprs.getD x.toNat default).N,Aa 0]) (VV.tup [Aa v,Aa r])) (BB ((e.M.Exprs.getD x.toNat default).Op==2) (∃ (y:Int × Int × Int),VC 128 [VV.tp (Af e),Aa x] (VV.tup [Aa y.fst,Aa y.snd.fst,Aa y.snd.snd])/\BB (y.snd.snd != 0) (LQ (VV.tup [Aa 0,Aa y.snd.snd]) (VV.tup [Aa v,Aa r])) (BB (decide (y.fst<0)) (inX y.snd.fst e.S.Globals.length/\LQ (VV.tup [Aa (e.S.Globals.getD y.snd.fst.toNat 0),Aa 0]) (VV.tup [Aa v,Aa r])) (inX y.fst e.S.Procs.length/\inX y.snd.fst (e.S.Procs.getD y.fst.toNat default).Frame.length/\LQ (VV.tup [Aa ((e.S.Procs.getD y.fst.toNat default).Frame.getD y.snd.fst.toNat 0),Aa 0]) (VV.tup [Aa v,Aa r])))) (BB ((e.M.Exprs.getD x.toNat default).Op==22) (AA (fc C5 Dz Tryz.f94 [] (VV.tup [Aa v,Aa r])) Ag3 (Hz e (e.M.Exprs.getD x.toNat default) 26 ((e.M.Exprs.getD x.toNat default).Op==22))) (BB ((e.M.Exprs.getD x.toNat default).Op==23) (AA (fc C5 Dz Tryz.f94 [] (VV.tup [Aa v,Aa r])) Ag3 (Hz e (e.M.Exprs.getD x.toNat default) 26 ((e.M.Exprs.getD x.toNat default).Op==23))) (AA (fc C5 Dz Tryz.f94 [] (VV.tup [Aa v,Aa r])) Ag3 (Hz e (e.M.Exprs.getD x.toNat default) 26 ((e.M.Exprs.getD x.toNat default).Op==24))))))):=by kernel_rfl
theorem Tv (b:Bool)(l:List Int)(v:Int):(fc C5 AT Tryz.f173 [] (Ac b)).goal (St.init [] [Ad true l,Aa v]) =
  (∃ (y:Int),VC 193 [Ad true l,Aa v] (Aa y)/\LQ (Ac (decide (y>=0))) (Ac b)):=by kernel_rfl
theorem AcE (r:Int)(l:List Int)(v:Int):(fc C5 NE Tryz.f193 [] (Aa r)).goal (St.init [] [Ad true l,Aa v]) =
  (AA (fc C5 NE Tryz.f193 [] (Aa r)) [1,0,1,0] (Za l v (0:Int))):=by kernel_rfl
theorem Afz (r:Int)(c:D.Chan)(l mt:List Int)(some':Bool):(fc C5 QJ Tryz.f172 [] (Aa r)).goal (St.init [] [.agg (AB c),Ad false l,Ad true mt,Ac some']) =
  (AA (fc C5 QJ Tryz.f172 [] (Aa r)) [1,0,1,0] (SO c l mt some' (0:Int))):=by kernel_rfl
theorem Afa (b:Bool)(x l mt:List Int):(fc C5 QI Tryz.f192 [] (Ac b)).goal (St.init [] [Ad true x,Ad false l,Ad true mt]) =
  (BB (bif decide ((↑x.length:Int)<(↑mt.length:Int)) then true else decide ((↑l.length:Int)<(↑mt.length:Int))) (LQ (Ac false) (Ac b)) (AA (fc C5 QI Tryz.f192 [] (Ac b)) [1,1,0,1,0] (SM x l mt (0:Int)))):=by kernel_rfl
theorem Ac0 (v r:Int)(e:D.Env)(x:D.Expr)(b:Bool):((fc C5 Dz Tryz.f94 [] (.tup [Aa v,Aa r])).cut Ag3).goal (Hz e x 26 b) =
  (BB b (∃ (y:Int × Int),VC 129 [VV.tp (Af e),VV.agg (AS x)] (VV.tup [Aa y.fst,Aa y.snd])/\LQ (VV.tup [Aa y.fst,Aa y.snd]) (VV.tup [Aa v,Aa r])) (BB (x.Op==25) (AA (fc C5 Dz Tryz.f94 [] (VV.tup [Aa v,Aa r])) Ab8 (Hz e x 30 (x.Op==25))) (BB (x.Op==26) (AA (fc C5 Dz Tryz.f94 [] (VV.tup [Aa v,Aa r])) Ab8 (Hz e x 30 (x.Op==26))) (BB (x.Op==27) (AA (fc C5 Dz Tryz.f94 [] (VV.tup [Aa v,Aa r])) Ab8 (Hz e x 30 (x.Op==27))) (BB (x.Op==28) (AA (fc C5 Dz Tryz.f94 [] (VV.tup [Aa v,Aa r])) Ab8 (Hz e x 30 (x.Op==28))) (AA (fc C5 Dz Tryz.f94 [] (VV.tup [Aa v,Aa r])) Ab8 (Hz e x 30 (x.Op==29)))))))):=by kernel_rfl
theorem AcZ (v r:Int)(e:D.Env)(x:D.Expr)(b:Bool):((fc C5 Dz Tryz.f94 [] (.tup [Aa v,Aa r])).cut Ab8).goal (Hz e x 30 b) =
  (BB b (∃ (y:Int × Int),VC 130 [VV.tp (Af e),VV.agg (AS x)] (VV.tup [Aa y.fst,Aa y.snd])/\LQ (VV.tup [Aa y.fst,Aa y.snd]) (VV.tup [Aa v,Aa r])) (BB (x.Op==30) (∃ (y:Int × Int),VC 131 [VV.tp (Af e),VV.agg (AS x)] (VV.tup [Aa y.fst,Aa y.snd])/\LQ (VV.tup [Aa y.fst,Aa y.snd]) (VV.tup [Aa v,Aa r])) (BB (x.Op==31) (LQ (VV.tup [Aa e.Pid,Aa 0]) (VV.tup [Aa v,Aa r])) (BB (x.Op==32) (LQ (VV.tup [Aa e.S.Last,Aa 0]) (VV.tup [Aa v,Aa r])) (BB (x.Op==33) (LQ (VV.tup [Aa (↑e.S.Procs.length:Int),Aa 0]) (VV.tup [Aa v,Aa r])) (BB (x.Op==34) (∃ (y:Bool),VC 133 [VV.tp (Af e)] (Ac y)/\∃ (y_1:Int × Int),VC 132 [Ac !y] (VV.tup [Aa y_1.fst,Aa y_1.snd])/\LQ (VV.tup [Aa y_1.fst,Aa y_1.snd]) (VV.tup [Aa v,Aa r])) (BB (x.Op==35) (∃ (y:Int × Int),VC 132 [Ac e.Timeout] (VV.tup [Aa y.fst,Aa y.snd])/\LQ (VV.tup [Aa y.fst,Aa y.snd]) (VV.tup [Aa v,Aa r])) (BB (x.Op==36) (∃ (y:Int × Int),VC 94 [VV.tp (Af e),Aa x.A] (VV.tup [Aa y.fst,Aa y.snd])/\BB (y.snd != 0) (LQ (VV.tup [Aa 0,Aa y.snd]) (VV.tup [Aa v,Aa r])) (((true&&(bif decide (y.fst>=0) then decide (y.fst<(↑e.Able.length:Int)) else false)==true)=true->inX y.fst e.Able.length)/\∃ (y_1:Int × Int),VC 132 [Ac (bif bif decide (y.fst>=0) then decide (y.fst<(↑e.Able.length:Int)) else false then e.Able.getD y.fst.toNat false else false)] (VV.tup [Aa y_1.fst,Aa y_1.snd])/\LQ (VV.tup [Aa y_1.fst,Aa y_1.snd]) (VV.tup [Aa v,Aa r]))) (BB (x.Op==37) (∃ (y:Int × Int),VC 134 [VV.tp (Af e),VV.agg (AS x)] (VV.tup [Aa y.fst,Aa y.snd])/\LQ (VV.tup [Aa y.fst,Aa y.snd]) (VV.tup [Aa v,Aa r])) (BB (x.Op==38) (∃ (y:Int × Int),VC 134 [VV.tp (Af e),VV.agg (AS x)] (VV.tup [Aa y.fst,Aa y.snd])/\LQ (VV.tup [Aa y.fst,Aa y.snd]) (VV.tup [Aa v,Aa r])) (BB (x.Op==39) (LQ (VV.tup [Aa 0,Aa 42]) (VV.tup [Aa v,Aa r])) (∃ (y:Int × Int),VC 135 [VV.tp (Af e),VV.agg (AS x)] (VV.tup [Aa y.fst,Aa y.snd])/\LQ (VV.tup [Aa y.fst,Aa y.snd]) (VV.tup [Aa v,Aa r]))))))))))))):=by kernel_rfl
theorem Abl (p k r:Int)(e:D.Env)(_:Int)(ds:List D.Dim)(who at' i:Int)(J:St->Prop):((fc C5 QF Tryz.f128 [] (.tup [Aa p,Aa k,Aa r])).loop [1,1,1,1,1,1,0,1,0] J).goal (PD e ds who at' i) =
  (BB (decide (i<(↑ds.length:Int))) (inX i ds.length/\∃ (y:Int × Int),VC 94 [VV.tp (Af e),Aa (ds.getD i.toNat default).I] (VV.tup [Aa y.fst,Aa y.snd])/\BB (y.snd != 0) (LQ (VV.tup [Aa 0,Aa 0,Aa y.snd]) (VV.tup [Aa p,Aa k,Aa r])) (BB (bif decide (y.fst<0) then true else decide (y.fst>=(ds.getD i.toNat default).Len)) (LQ (VV.tup [Aa 0,Aa 0,Aa 47]) (VV.tup [Aa p,Aa k,Aa r])) (J (PD e ds who (IntKind.i64.wrap (at'+IntKind.i64.wrap (y.fst*(ds.getD i.toNat default).Stride))) (IntKind.i64.wrap (i+(1:Int))))))) (LQ (VV.tup [Aa who,Aa at',Aa 0]) (VV.tup [Aa p,Aa k,Aa r]))):=by kernel_rfl
theorem Ab3 (v r:Int)(e:D.Env)(x:D.Expr)(c:D.Chan)(l:List Int)(k:Int)(J:St->Prop):((fc C5 MM Tryz.f131 [] (.tup [Aa v,Aa r])).loop [1,1,1,1,1,1,0,1,0] J).goal (Xa e x c l k) =
  (BB (decide (k<(↑x.Args.length:Int))) (inX k x.Args.length/\inX k x.Match.length/\BB (x.Match.getD k.toNat 0 != 1) (J (Xa e x c l (IntKind.i64.wrap (k+(1:Int))))) (∃ (y:Int × Int),VC 94 [VV.tp (Af e),Aa (x.Args.getD k.toNat 0)] (VV.tup [Aa y.fst,Aa y.snd])/\inX k l.length/\BB (y.snd != 0) (LQ (VV.tup [Aa 0,Aa y.snd]) (VV.tup [Aa v,Aa r])) (J (Aq [(0,VV.tp (Af e)),(3,VV.bp 0 0),(8,VV.bp 1 0),(9,VV.ow 2 0 l.length),(51,Ad true x.Args),(52,Aa (↑x.Args.length:Int)),(53,Aa (IntKind.i64.wrap (k+(1:Int))))] [Ob.box (AS x),Ob.box (AB c),Ob.arr true 0 l.length 1 fun(j:Nat)=>bif j.beq k.toNat then[Aa y.fst] else[Aa (l.getD j 0)]])))) (∃ (y:Int),VC 172 [VV.agg (AB c),Ad false l,Ad true x.Match,Ac (x.N==1)] (Aa y)/\∃ (y_1:Int × Int),VC 132 [Ac (decide (y>=0))] (VV.tup [Aa y_1.fst,Aa y_1.snd])/\LQ (VV.tup [Aa y_1.fst,Aa y_1.snd]) (VV.tup [Aa v,Aa r]))):=by kernel_rfl
theorem Q0 (b:Bool)(e:D.Env)(k:Int)(J:St->Prop):((fc C5 I3 Tryz.f133 [] (Ac b)).loop [1,0,1,0] J).goal (SK e k) =
  (BB (decide (k<(↑e.S.Procs.length:Int))) (inX k e.S.Procs.length/\inX (e.S.Procs.getD k.toNat default).Type_ e.M.Procs.length/\inX (e.S.Procs.getD k.toNat default).Loc (e.M.Procs.getD (e.S.Procs.getD k.toNat default).Type_.toNat default).Locs.length/\BB ((e.M.Procs.getD (e.S.Procs.getD k.toNat default).Type_.toNat default).Locs.getD (e.S.Procs.getD k.toNat default).Loc.toNat default).Progress (LQ (Ac true) (Ac b)) (J (SK e (IntKind.i64.wrap (k+(1:Int)))))) (LQ (Ac false) (Ac b))):=by kernel_rfl
theorem X8 (r:Int)(l:List Int)(v k:Int)(J:St->Prop):((fc C5 NE Tryz.f193 [] (Aa r)).loop [1,0,1,0] J).goal (Za l v k) =
  (BB (decide (k<(↑l.length:Int))) (inX k l.length/\BB (v==l.getD k.toNat 0) (LQ (Aa k) (Aa r)) (J (Za l v (IntKind.i64.wrap (k+(1:Int)))))) (LQ (Aa (-1)) (Aa r))):=by kernel_rfl
theorem AcV (r:Int)(c:D.Chan)(l mt:List Int)(any:Bool)(k:Int)(J:St->Prop):((fc C5 QJ Tryz.f172 [] (Aa r)).loop [1,0,1,0] J).goal (SO c l mt any k) =
  (BB (decide (k<(↑c.Queue.length:Int))) (inX k c.Queue.length/\∃ (y:Bool),VC 192 [Ad true (c.Queue.getD k.toNat []),Ad false l,Ad true mt] (Ac y)/\BB y (LQ (Aa k) (Aa r)) (BB (!any) (LQ (Aa (-1)) (Aa r)) (J (SO c l mt any (IntKind.i64.wrap (k+(1:Int))))))) (LQ (Aa (-1)) (Aa r))):=by kernel_rfl
theorem Ack (b:Bool)(x l mt:List Int)(k:Int)(J:St->Prop):((fc C5 QI Tryz.f192 [] (Ac b)).loop [1,1,0,1,0] J).goal (SM x l mt k) =
  (BB (decide (k<(↑mt.length:Int))) (inX k mt.length/\((true&&(mt.getD k.toNat 0==1)==true)=true->inX k x.length)/\((true&&(mt.getD k.toNat 0==1)==true)=true->inX k l.length)/\BB (bif mt.getD k.toNat 0==1 then x.getD k.toNat 0 != l.getD k.toNat 0 else false) (LQ (Ac false) (Ac b)) (J (SM x l mt (IntKind.i64.wrap (k+(1:Int)))))) (LQ (Ac true) (Ac b))):=by kernel_rfl
theorem Acs (v r:Int)(e:D.Env)(x:Int):(fc C5 AT Tryz.f170 [] (.tup [Aa v,Aa r])).goal (St.init [] [Aa x,.tp [.tp (Af e)]]) =
  (∃ (y:Int × Int),VC 94 [VV.tp (Af e),Aa x] (VV.tup [Aa y.fst,Aa y.snd])/\LQ (VV.tup [Aa y.fst,Aa y.snd]) (VV.tup [Aa v,Aa r])):=by kernel_rfl
end Go.Proofs.YtmdcknlpalfhhaaGreatDoor
namespace Go.Proofs.YtmdcknlpalfhhaaGreatDoor
open Go.RowKit
def Ej (b:Int)(s:Bool)(v:Int):Int :=
 if 1<=b/\b<=32 then(if s then(v+2 ^ b.toNat / 2) % 2 ^ b.toNat - 2 ^ b.toNat / 2 else v % 2 ^ b.toNat) else 0
theorem Aho (b v:Int)(s:Bool)(h:b<1∨32<b):Ej b s v=0:=by
 unfold Ej;rw[Alg (by omega)]
theorem Vs (b v:Int)(h1:1<=b)(h2:b<=32):wrap64 (v*2 ^ (64 - b).toNat) / 2 ^ (64 - b).toNat=Ej b true v:=by
 have hb:b=1∨b=2∨b=3∨b=4∨b=5∨b=6∨b=7∨b=8∨b=9∨b=10∨b=11∨b=12∨b=13∨b=14∨b=15∨b=16∨b=17∨b=18∨b=19∨b=20∨b=21∨b=22∨b=23∨b=24∨b=25∨b=26∨b=27∨b=28∨b=29∨b=30∨b=31∨b=32:=by omega
 unfold wrap64 Ej
 rcases hb with h | h | h | h | h | h | h | h | h | h | h | h | h | h | h | h | h | h | h | h | h | h | h | h | h | h | h | h | h | h | h | h <;>
  subst h<;>simp<;>omega
theorem V2 (v:Int)(m:Nat)(hm:m<32):bits .and .i64 v (((2 ^ (m+1):Nat):Int) - 1)=v % ((2 ^ (m+1):Nat):Int):=by
 show IntKind.i64.wrap ((BitVec.ofInt 64 v &&& BitVec.ofInt 64 (((2 ^ (m+1):Nat):Int) - 1)).toNat:Int)=_
 have hp:2 ^ (m+1)<=2 ^ 32:=Amv (by decide) (by omega)
 have hpos:0<2 ^ (m+1):=Nat.two_pow_pos _
 have e1:(((2 ^ (m+1):Nat):Int) - 1)=((2 ^ (m+1) - 1:Nat):Int):=by omega
 rw[BitVec.toNat_and,e1,BitVec.ofInt_natCast,BitVec.toNat_ofNat,BitVec.toNat_ofInt]
 have e2:(2 ^ (m+1) - 1) % 2 ^ 64=2 ^ (m+1) - 1:=Nat.mod_eq_of_lt (by omega)
 rw[e2,Am3]
 have hlt:(v % ((2 ^ 64:Nat):Int)).toNat % 2 ^ (m+1)<2 ^ (m+1):=Nat.mod_lt _ hpos
 rw[IntWalk.i64_in _ (by omega)]
 have hnn:0<=v % ((2 ^ 64:Nat):Int):=Anc _ (by decide)
 have hd:((2 ^ (m+1):Nat):Int) ∣ ((2 ^ 64:Nat):Int):=by
  have:2 ^ (m+1) ∣ 2 ^ 64:=Nat.pow_dvd_pow 2 (by omega)
  exact Int.natCast_dvd_natCast.2 this
 rw[Int.natCast_emod,Int.toNat_of_nonneg hnn]
 exact Int.emod_emod_of_dvd _ hd
theorem Afw (b v:Int)(h1:1<=b)(h2:b<=32):bits .and .i64 v (wrap64 (wrap64 (2 ^ b.toNat) - 1))=Ej b false v:=by
 obtain⟨m,rfl⟩:∃ m:Nat,b=(m:Int)+1:=⟨(b - 1).toNat,by omega⟩
 have hm:m<32:=by omega
 have e:((m:Int)+1).toNat=m+1:=by omega
 have hp:2 ^ (m+1)<=2 ^ 32:=Amv (by decide) (by omega)
 have hpos:0<2 ^ (m+1):=Nat.two_pow_pos _
 have ec:(2:Int) ^ (m+1)=((2 ^ (m+1):Nat):Int):=by simp
 unfold Ej
 rw[Alw ⟨h1,h2⟩,e,ec,IntWalk.wrap64_in ((2 ^ (m+1):Nat):Int) (by omega),IntWalk.wrap64_in _ (by omega),V2 v m hm]
 simp
theorem AeU (b:Int)(h1:1<=b)(h2:b<=32):(2:Int)<=2 ^ b.toNat/\(2:Int) ^ b.toNat<=4294967296:=by
 obtain⟨m,hm⟩:∃ m:Nat,b.toNat=m+1:=⟨b.toNat - 1,by omega⟩
 rw[hm]
 have hp:2 ^ (m+1)<=2 ^ 32:=Amv (by decide) (by omega)
 have hq:2 ^ 1<=2 ^ (m+1):=Amv (by decide) (by omega)
 have ec:(2:Int) ^ (m+1)=((2 ^ (m+1):Nat):Int):=by simp
 rw[ec];omega
theorem Br (n:Int):-2147483648<=wrap32 n/\wrap32 n<=2147483647:=by unfold wrap32;omega
theorem AaH {n:Int}(h:-2147483648<=n)(h':n<=2147483647):wrap32 n=n:=by unfold wrap32;omega
theorem Hh (n:Int):wrap64 (wrap32 n)=wrap32 n:=by have:=Br n;exact IntWalk.wrap64_in _ (by omega)
theorem O2 (n:Int):wrap32 n % 4294967296=n % 4294967296:=by unfold wrap32;omega
theorem Ra {m n:Int}(h:m % 4294967296=n % 4294967296):wrap32 m=wrap32 n:=by unfold wrap32;omega
theorem Agh (a b:Int):wrap32 (wrap32 a*b)=wrap32 (a*b):=Ra (by rw[Int.mul_emod,O2,← Int.mul_emod])
theorem Ss (a b:Int):wrap32 (a - wrap32 b)=wrap32 (a - b):=Ra (by rw[Int.sub_emod,O2,← Int.sub_emod])
theorem YZ (x y:Int)(h1:-2147483648<=x)(h2:x<=2147483647):-2147483648<=x.tmod y/\x.tmod y<=2147483647:=by
 by_cases h:0<=x
 ·have a:=Int.tmod_nonneg y h
  have b:x.tmod y<=x:=by
   have:=Anc
   rw[Int.tmod_eq_emod_of_nonneg h]
   by_cases hy:y=0
   ·subst hy;simp
   ·have hq:x % y=x - y*(x / y):=by have:=Int.emod_def x y;omega
    have:0<=y*(x / y):=by
     rcases Int.lt_or_gt_of_ne hy with hn | hp
     ·exact Int.mul_nonneg_of_nonpos_of_nonpos (by omega) (Int.ediv_nonpos_of_nonneg_of_nonpos h (by omega))
     ·exact Int.mul_nonneg (by omega) (Int.ediv_nonneg h (by omega))
    omega
  omega
 ·have e:x.tmod y=-((-x).tmod y):=by rw[Int.neg_tmod];omega
  have hx:0<=-x:=by omega
  have a:=Int.tmod_nonneg y hx
  have b:(-x).tmod y<=-x:=by
   rw[Int.tmod_eq_emod_of_nonneg hx]
   by_cases hy:y=0
   ·subst hy;simp
   ·have hq:-x % y=-x - y*(-x / y):=by have:=Int.emod_def (-x) y;omega
    have:0<=y*(-x / y):=by
     rcases Int.lt_or_gt_of_ne hy with hn | hp
     ·exact Int.mul_nonneg_of_nonpos_of_nonpos (by omega) (Int.ediv_nonpos_of_nonneg_of_nonpos hx (by omega))
     ·exact Int.mul_nonneg (by omega) (Int.ediv_nonneg hx (by omega))
    omega
  omega
theorem AgV (x y:Int)(h1:-2147483648<=x)(h2:x<=2147483647):wrap32 (x - wrap32 (wrap32 (x.tdiv y)*y))=x.tmod y:=by
 have hb:=YZ x y h1 h2
 rw[Ss,← Ss,Agh,Ss]
 have e:x - x.tdiv y*y=x.tmod y:=by have:=Int.tmod_add_mul_tdiv x y;rw[Int.mul_comm]at this;omega
 rw[e];exact AaH hb.1 hb.2
def Ih (b:Bool):Int:=if b then 1 else 0
def HA (a n:Int):Int:=if 0<=n then wrap32 (a*2 ^ min n.toNat 32) else a / 2 ^ min (-n).toNat 32
def Er (op a b:Int):Int :=
 if op=6 then wrap32 (wrap32 a*wrap32 b)
 else if op=7 then(if wrap32 b=0 then 0 else wrap32 ((wrap32 a).tdiv (wrap32 b)))
 else if op=8 then(if wrap32 b=0 then 0 else(wrap32 a).tmod (wrap32 b))
 else if op=9 then wrap32 (wrap32 a+wrap32 b)
 else if op=10 then wrap32 (wrap32 a - wrap32 b)
 else if op=11 then HA (wrap32 a) (wrap32 b)
 else if op=12 then HA (wrap32 a) (-wrap32 b)
 else if op=13 then Ih (decide (wrap32 a<wrap32 b))
 else if op=14 then Ih (decide (wrap32 a<=wrap32 b))
 else if op=15 then Ih (decide (wrap32 b<wrap32 a))
 else if op=16 then Ih (decide (wrap32 b<=wrap32 a))
 else if op=17 then Ih (wrap32 a==wrap32 b)
 else if op=18 then Ih (wrap32 a != wrap32 b)
 else if op=19 then bits .and .i32 (wrap32 a) (wrap32 b)
 else if op=20 then bits .xor .i32 (wrap32 a) (wrap32 b)
 else if op=21 then bits .or .i32 (wrap32 a) (wrap32 b)
 else 0
def Hy (op b:Int):Int :=
 if (op=7∨op=8)/\wrap32 b=0 then 48 else if 6<=op/\op<=21 then 0 else 42
def M7 (op a:Int):Int :=
 if op=3 then wrap32 (-wrap32 a) else if op=4 then Ih (wrap32 a==0) else if op=5 then -wrap32 a - 1 else 0
def XO (op:Int):Int:=if op=3∨op=4∨op=5 then 0 else 42
theorem EO (op:BinOp)(hop:op=.and∨op=.or∨op=.xor)(a b:Int):-2147483648<=bits op .i32 a b/\bits op .i32 a b<=2147483647:=by
 rcases hop with rfl | rfl | rfl
 all_goals
  unfold bits
  simp only[]
  rw[IntKind.wrap_i32];omega
theorem Aee (a:Int)(k:Nat):(a / 2 ^ k) / 2=a / 2 ^ (k+1):=by
 rw[Int.ediv_ediv_of_nonneg (Int.le_of_lt (Int.pow_pos (by decide))),Int.pow_succ]
theorem Ait (a:Int)(k:Nat)(h1:-2147483648<=a)(h2:a<=2147483647):-2147483648<=a / 2 ^ k/\a / 2 ^ k<=2147483647:=by
 induction k with
 | zero=>simp;omega
 | succ k ih=>rw[← Aee];omega
theorem Ko (a n:Int)(h:-2147483648<=a/\a<=2147483647):-2147483648<=HA a n/\HA a n<=2147483647:=by
 unfold HA
 split
 ·exact Br _
 ·exact Ait a _ h.1 h.2
theorem AcP (x:Int)(h:-2147483648<=x/\x<=2147483647):bits .xor .i32 (-1) x=-x - 1:=by
 show IntKind.i32.wrap ((BitVec.ofInt 32 (-1) ^^^ BitVec.ofInt 32 x).toNat:Int)=_
 have e:BitVec.ofInt 32 (-1)=BitVec.allOnes 32:=by decide
 rw[e,BitVec.allOnes_xor,BitVec.toNat_not,BitVec.toNat_ofInt,IntKind.wrap_i32]
 have:(((2:Nat) ^ 32:Nat):Int)=4294967296:=by decide
 rw[this];omega
theorem Afu (a:Int):wrap64 (bits .xor .i32 (-1) (wrap32 a))=-wrap32 a - 1:=by
 have h:=Br a
 rw[AcP _ h];exact IntWalk.wrap64_in _ (by omega)
def DU (b:Bool):Int × Int:=(bif b then 1 else 0,0)
abbrev Evl:=Int->Int × Int
section
variable (e : D.Env) (ev:Evl)
def DF (a:Int):Int × Int :=
 bif decide ((ev a).2≠0) then(0,(ev a).2) else bif decide ((ev a).1<1)||decide ((e.S.Chans.length:Int)<(ev a).1) then(0,49) else((ev a).1,0)
def Cl (n:Int):D.Chan:=e.S.Chans.getD (n - 1).toNat default
def AjD (op room many:Int):Int × Int :=
 if op=25 then(many,0) else if op=26 then DU (decide (room<=many)) else if op=28 then DU (decide (many<room)) else if op=27 then DU (decide (many=0)) else DU (decide (0<many))
def Si (x:D.Expr):Int × Int :=
 bif decide ((DF e ev x.A).2≠0) then(0,(DF e ev x.A).2) else AjD x.Op (BP e.M (Cl e (DF e ev x.A).1).Shape).Room (Cl e (DF e ev x.A).1).Queue.length
def Yu : Nat->(Nat->Int)->Int
 | 0,_=>0
 | n+1,f=>bif decide (Yu n f≠0) then Yu n f else f n
def El (a m:Int):Int × Int:=bif decide (m=1) then ev a else(0,0)
def MR (args mt:List Int):List Int:=(List.range args.length).map fun i=>(El ev (args.getD i 0) (mt.getD i 0)).1
def EP (args mt:List Int)(n:Nat):Int:=Yu n fun i=>(El ev (args.getD i 0) (mt.getD i 0)).2
def Ij (x l mt:List Int):Bool:=decide (mt.length<=x.length)&&decide (mt.length<=l.length)&&Ed mt.length fun i=>!(decide (mt.getD i 0=1)&&decide (x.getD i 0≠l.getD i 0))
def R7 (l mt:List Int)(any:Bool):Nat->List (List Int)->Int
 | _,[]=>-1
 | k,x::q=>bif Ij x l mt then(k:Int) else bif any then R7 l mt any (k+1) q else -1
def JN (c:D.Chan)(l mt:List Int)(any:Bool):Int:=R7 l mt any 0 c.Queue
def RJ (x:D.Expr):Int × Int :=
 bif decide ((DF e ev x.A).2≠0) then(0,(DF e ev x.A).2)
 else bif decide ((BP e.M (Cl e (DF e ev x.A).1).Shape).Fields.length≠x.Args.length) then(0,49)
 else bif decide (EP ev x.Args x.Match x.Args.length≠0) then(0,EP ev x.Args x.Match x.Args.length)
 else DU (decide (0<=JN (Cl e (DF e ev x.A).1) (MR ev x.Args x.Match) x.Match (decide (x.N=1))))
def DP (n:Int):D.Process:=e.S.Procs.getD n.toNat default
def Kq (x:D.Expr):Int × Int :=
 bif decide ((ev x.A).2≠0) then(0,(ev x.A).2)
 else bif decide ((ev x.A).1<0)||(decide ((e.S.Procs.length:Int)<=(ev x.A).1)||(decide (x.Op=38)&&decide ((DP e (ev x.A).1).Type_≠x.N))) then(0,52)
 else bif decide (x.Op=37) then((DP e (ev x.A).1).Loc,0) else DU (decide ((DP e (ev x.A).1).Loc∈x.Args))
def Nc (x:D.Expr):Int × Int :=
 bif decide ((ev x.A).2≠0) then(0,(ev x.A).2)
 else bif decide (x.Op=24) then(bif decide ((ev x.A).1≠0) then ev x.B else ev x.C)
 else bif (decide (x.Op=22)&&decide ((ev x.A).1=0))||(decide (x.Op=23)&&decide ((ev x.A).1≠0)) then DU (decide ((ev x.A).1≠0))
 else bif decide ((ev x.B).2≠0) then(0,(ev x.B).2) else DU (decide ((ev x.B).1≠0))
def Rq (x:D.Expr):Int × Int :=
 bif decide ((ev x.A).2≠0) then(0,(ev x.A).2)
 else bif decide (x.Op=3)||(decide (x.Op=4)||decide (x.Op=5)) then(M7 x.Op (ev x.A).1,XO x.Op)
 else bif decide ((ev x.B).2≠0) then(0,(ev x.B).2) else(Er x.Op (ev x.A).1 (ev x.B).1,Hy x.Op (ev x.B).1)
def Dm (v:D.Var):Int × Int :=
 bif decide (v.Scope=0) then(bif decide ((e.S.Globals.length:Int)<Es v) then(0,42) else(-1,0))
 else bif decide (v.Scope=1) then(bif decide (e.Pid<0)||decide (((DP e e.Pid).Frame.length:Int)<Es v) then(0,42) else(e.Pid,0))
 else bif decide ((ev v.Who).2≠0) then(0,(ev v.Who).2)
 else bif decide ((ev v.Who).1<0)||(decide ((e.S.Procs.length:Int)<=(ev v.Who).1)||decide ((DP e (ev v.Who).1).Type_≠v.Type_)) then(0,52)
 else bif decide (((DP e (ev v.Who).1).Frame.length:Int)<Es v) then(0,42) else((ev v.Who).1,0)
def FW : Int->List D.Dim->Int × Int
 | n,[]=>(n,0)
 | n,d::l=>bif decide ((ev d.I).2≠0) then(0,(ev d.I).2) else bif decide ((ev d.I).1<0)||decide (d.Len<=(ev d.I).1) then(0,47) else FW (n+(ev d.I).1*d.Stride) l
def BC (x:D.Expr):Int × Int × Int :=
 bif decide (x.Op≠2) then(0,0,42)
 else bif decide ((Dm e ev x.V).2≠0) then(0,0,(Dm e ev x.V).2)
 else bif decide ((FW ev x.V.Slot x.V.Dims).2≠0) then(0,0,(FW ev x.V.Slot x.V.Dims).2) else((Dm e ev x.V).1,(FW ev x.V.Slot x.V.Dims).1,0)
def Zo (x:D.Expr):Int × Int :=
 bif decide ((BC e ev x).2.2≠0) then(0,(BC e ev x).2.2)
 else bif decide ((BC e ev x).1<0) then(e.S.Globals.getD (BC e ev x).2.1.toNat 0,0) else((DP e (BC e ev x).1).Frame.getD (BC e ev x).2.1.toNat 0,0)
def Ks : Bool:=!(Ed e.S.Procs.length fun i=>!((IM e.M (e.S.Procs.getD i default).Type_).getD (e.S.Procs.getD i default).Loc.toNat default).Progress)
def Z9 (x:D.Expr):Int × Int :=
 bif decide ((ev x.A).2≠0) then(0,(ev x.A).2)
 else DU (decide (0<=(ev x.A).1)&&(decide ((ev x.A).1<e.Able.length)&&e.Able.getD (ev x.A).1.toNat false))
def Dw (x:D.Expr):Int × Int :=
 if x.Op=1 then(x.N,0) else if x.Op=2 then Zo e ev x else if x.Op=22∨x.Op=23∨x.Op=24 then Nc ev x
 else if x.Op=25∨x.Op=26∨x.Op=27∨x.Op=28∨x.Op=29 then Si e ev x else if x.Op=30 then RJ e ev x
 else if x.Op=31 then(e.Pid,0) else if x.Op=32 then(e.S.Last,0) else if x.Op=33 then(e.S.Procs.length,0) else if x.Op=34 then DU (!Ks e)
 else if x.Op=35 then DU e.Timeout else if x.Op=36 then Z9 e ev x else if x.Op=37∨x.Op=38 then Kq e ev x else if x.Op=39 then(0,42) else Rq ev x
end
def Sc (e:D.Env):Nat->Evl
 | 0,_=>(0,0)
 | n+1,a=>Dw e (Sc e n) (Aw e.M a)
def Fp (e:D.Env):Evl:=Sc e (e.M.Exprs.length - 1)
def CD (e:D.Env)(x:Int):Int :=
 bif decide (Cf e.M e.S≠0) then Cf e.M e.S
 else bif decide (e.Pid < -1)||(decide ((e.S.Procs.length:Int)<=e.Pid)||(decide (x<0)||decide ((e.M.Exprs.length:Int)<=x))) then 42 else 0
def AX (e:D.Env)(x:Int):Int × Int:=bif decide (CD e x≠0) then(0,CD e x) else Dw e (Fp e) (Aw e.M x)
def AC (e:D.Env)(x:Int):Int × Int:=bif decide (CD e x≠0) then(0,CD e x) else DF e (Sc e e.M.Exprs.length) x
def IQ (v:Int):Nat->List Int->Int
 | _,[]=>-1
 | k,y::l=>bif decide (v=y) then(k:Int) else IQ v (k+1) l
theorem AcG {v y:Int}{k:Nat}{l:List Int}:IQ v k (y::l)=bif decide (v=y) then(k:Int) else IQ v (k+1) l:=rfl
theorem ZP {v:Int}:∀ {l:List Int} {k:Nat},decide (v∈l)=decide (IQ v k l>=0)
 | [],k=>by simp[IQ]
 | y::l,k=>by
  unfold IQ
  by_cases h:v=y
  ·simp[h]
  ·have:=ZP (v:=v) (l:=l) (k:=k+1)
   simp only[h,decide_false,Ak0,← this]
   simp[h]
theorem Hl {k:IntKind}{a b:Int}(h:a=b):Ending.returned (.int k a)=.returned (.int k b):=by rw[h]
theorem AfZ {W w1:World}(hb:Below W.heap.size W w1):(∀ b o,b<W.heap.size->w1.cell? ⟨b,o,none⟩=W.cell? ⟨b,o,none⟩)/\(∀ b o,b<W.heap.size->w1.frozen? ⟨b,o,none⟩=W.frozen? ⟨b,o,none⟩) :=
 ⟨fun b o h=>hb.cell (p:=⟨b,o,none⟩) h,fun b o h=>hb.frozen (p:=⟨b,o,none⟩) h⟩
theorem ED (w:World)(o:Obj):Below w.heap.size w (w.alloc o):=(Below.refl _ _).alloc (Ak6 _) _
set_option maxHeartbeats 400000 in
theorem Ain (b v:Int)(w:World)(h1:1<=b)(h2:b<=32) :
  Calls Tryz.prog 37 #[.agg #[.int .i64 b,.bool true],.int .i64 v] w fun e w'=>e=.returned (.int .i64 (Ej b true v))/\Below w.heap.size w w':=by
 have d1:decide (b<1)=false:=by simp;omega
 have d2:decide (32<b)=false:=by simp;omega
 go_enter Tryz.func37,Tryz.ntmps37
 go_wp2
 go_quiet (fail)
 go_wp2
 go_ret
 exact⟨Hl (Vs b v h1 h2),below_drewN (ED _ _) _⟩
set_option maxHeartbeats 400000 in
theorem Aim (b v:Int)(w:World)(h1:1<=b)(h2:b<=32) :
  Calls Tryz.prog 37 #[.agg #[.int .i64 b,.bool false],.int .i64 v] w fun e w'=>e=.returned (.int .i64 (Ej b false v))/\Below w.heap.size w w':=by
 have d1:decide (b<1)=false:=by simp;omega
 have d2:decide (32<b)=false:=by simp;omega
 go_enter Tryz.func37,Tryz.ntmps37
 go_wp2
 go_ret
 exact⟨Hl (Afw b v h1 h2),ED _ _⟩
set_option maxHeartbeats 400000 in
theorem Ail (b v:Int)(s:Bool)(w:World)(h1:b<1∨32<b) :
  Calls Tryz.prog 37 #[.agg #[.int .i64 b,.bool s],.int .i64 v] w fun e w'=>e=.returned (.int .i64 (Ej b s v))/\Below w.heap.size w w':=by
 have HF:=Lib.hid (Aho b v s h1)
 rcases h1 with h1 | h1
 ·go_enter Tryz.func37,Tryz.ntmps37
  go_wp2
  go_ret
  exact⟨Hl HF.out.symm,ED _ _⟩
 ·have d1:decide (b<1)=false:=by simp;omega
  go_enter Tryz.func37,Tryz.ntmps37
  go_wp2
  go_ret
  exact⟨Hl HF.out.symm,ED _ _⟩
theorem Agl (b v:Int)(s:Bool)(w:World) :
  Calls Tryz.prog 37 #[.agg #[.int .i64 b,.bool s],.int .i64 v] w fun e w'=>e=.returned (.int .i64 (Ej b s v))/\Below w.heap.size w w':=by
 by_cases h:1<=b/\b<=32
 ·cases s
  ·exact Aim b v w h.1 h.2
  ·exact Ain b v w h.1 h.2
 ·exact Ail b v s w (by omega)
theorem Gv {k l:IntKind}{a b c d:Int}(h:a=b)(h':c=d):Ending.returned (.tuple #[.int k a,.int l c])=.returned (.tuple #[.int k b,.int l d]):=by rw[h,h']
set_option maxHeartbeats 400000 in
theorem WH (b:Bool)(w:World) :
  Calls Tryz.prog 194 #[.bool b] w fun e w'=>e=.returned (.int .i64 (Ih b))/\w=w':=by
 cases b
 all_goals
  go_enter Tryz.func194,Tryz.ntmps194
  go_wp2
  go_ret
  exact⟨rfl,rfl⟩
set_option maxHeartbeats 400000 in
theorem AdA (a n:Int)(w:World)(h0:-2147483648<=n)(h1:n<=2147483648) :
  Calls Tryz.prog 195 #[.int .i32 a,.int .i64 n] w fun e w'=>e=.returned (.int .i32 (HA a n))/\w=w':=by
 by_cases hn:0<=n
 ·have HP:Hid (HA a n=wrap32 (a*2 ^ min n.toNat 32)):=by unfold Hid HA;rw[Alw hn]
  by_cases h63:63<n
  ·go_enter Tryz.func195,Tryz.ntmps195
   go_wp2
   go_ret
   exact⟨Hl (by rw[HP.out,show min n.toNat 32=32 by omega];first | rfl | (rw[IntKind.wrap_i32]<;>rfl)),rfl⟩
  ·go_enter Tryz.func195,Tryz.ntmps195
   go_wp2
   go_ret
   exact⟨Hl (by rw[HP.out]),rfl⟩
 ·have HP:Hid (HA a n=a / 2 ^ min (-n).toNat 32):=by unfold Hid HA;rw[Alg hn]
  have h0n:n<=0:=by omega
  by_cases h63:63 < -n
  ·go_enter Tryz.func195,Tryz.ntmps195
   go_wp2
   go_ret
   exact⟨Hl (by rw[HP.out,show min (-n).toNat 32=32 by omega]<;>rfl),rfl⟩
  ·go_enter Tryz.func195,Tryz.ntmps195
   go_wp2
   go_ret
   exact⟨Hl HP.out.symm,rfl⟩
set_option maxHeartbeats 400000 in
theorem Aij (a b:Int)(w:World) :
  Calls Tryz.prog 175 #[.int .i64 7,.int .i64 a,.int .i64 b] w fun e w'=>e=.returned (.tuple #[.int .i64 (Er 7 a b),.int .i64 (Hy 7 b)])/\w=w':=by
 have hy:=Br b
 have hx:=Br a
 by_cases h0:wrap32 b=0
 ·have HV:Hid (Er 7 a b=0):=by unfold Hid;simp[Er,h0]
  have HE:Hid (Hy 7 b=48):=by unfold Hid;simp[Hy,h0]
  have hb0:(wrap32 b==0)=true:=by simpa using h0
  clear h0
  go_enter Tryz.func175,Tryz.ntmps175
  go_wp2
  refine Gq 0 rfl (fun J hJ=>?_)
  go_wp2
  go_step3
  refine⟨rfl,hJ _ _ ?_⟩
  go_wp2
  rw[Exit.noGoto_ret]
  go_ret2
  exact⟨Gv HV.out.symm HE.out.symm,rfl⟩
 ·have HV:Hid (Er 7 a b=wrap32 ((wrap32 a).tdiv (wrap32 b))):=by unfold Hid;simp[Er,h0]
  have HE:Hid (Hy 7 b=0):=by unfold Hid;simp[Hy,h0]
  have hb0:(wrap32 b==0)=false:=by simpa using h0
  go_enter Tryz.func175,Tryz.ntmps175
  go_wp2
  go_step3
  go_wp2
  rw[Exit.noGoto_ret]
  go_ret2
  exact⟨Gv (by rw[HV.out];exact Hh _) HE.out.symm,rfl⟩
set_option maxHeartbeats 400000 in
theorem Aii (a b:Int)(w:World) :
  Calls Tryz.prog 175 #[.int .i64 8,.int .i64 a,.int .i64 b] w fun e w'=>e=.returned (.tuple #[.int .i64 (Er 8 a b),.int .i64 (Hy 8 b)])/\w=w':=by
 have hy:=Br b
 have hx:=Br a
 by_cases h0:wrap32 b=0
 ·have HV:Hid (Er 8 a b=0):=by unfold Hid;simp[Er,h0]
  have HE:Hid (Hy 8 b=48):=by unfold Hid;simp[Hy,h0]
  have hb0:(wrap32 b==0)=true:=by simpa using h0
  clear h0
  go_enter Tryz.func175,Tryz.ntmps175
  go_wp2
  refine Gq 0 rfl (fun J hJ=>?_)
  go_wp2
  go_step3
  refine⟨rfl,hJ _ _ ?_⟩
  go_wp2
  rw[Exit.noGoto_ret]
  go_ret2
  exact⟨Gv HV.out.symm HE.out.symm,rfl⟩
 ·have HV:Hid (Er 8 a b=(wrap32 a).tmod (wrap32 b)):=by unfold Hid;simp[Er,h0]
  have HE:Hid (Hy 8 b=0):=by unfold Hid;simp[Hy,h0]
  have hb0:(wrap32 b==0)=false:=by simpa using h0
  go_enter Tryz.func175,Tryz.ntmps175
  go_wp2
  go_step3
  go_wp2
  rw[Exit.noGoto_ret]
  go_ret2
  exact⟨Gv (by rw[HV.out];rw[Hh];exact AgV _ _ hx.1 hx.2) HE.out.symm,rfl⟩
set_option maxHeartbeats 4000000 in
theorem Aih (op a b:Int)(w:World)(ho:op=6∨op=9∨op=10∨op=11∨op=12∨op=19∨op=20∨op=21) :
  Calls Tryz.prog 175 #[.int .i64 op,.int .i64 a,.int .i64 b] w fun e w'=>e=.returned (.tuple #[.int .i64 (Er op a b),.int .i64 (Hy op b)])/\w=w':=by
 have hy:=Br b
 rcases ho with rfl | rfl | rfl | rfl | rfl | rfl | rfl | rfl
 all_goals
  go_enter Tryz.func175,Tryz.ntmps175
  go_wp2
  go_step3
  go_wp2_with (first | (go_at_call 195;(with_reducible refine(AdA _ _ _ (by omega) (by omega)).mono ?_);rintro e w1 ⟨rfl,rfl⟩) | (go_at_call 194;(with_reducible refine(WH _ _).mono ?_);rintro e w1 ⟨rfl,rfl⟩))
  rw[Exit.noGoto_ret]
  go_ret2
  refine⟨Gv ?_ (by simp[Hy]),rfl⟩
  first
   | (simp[Er,Hh];done)
   | (have h:=Ko (wrap32 a) (wrap32 b) (Br a);simp only[Er];exact IntWalk.wrap64_in _ (by omega))
   | (have h:=Ko (wrap32 a) (-wrap32 b) (Br a);simp only[Er];exact IntWalk.wrap64_in _ (by omega))
   | (have h:=EO .and (by simp) (wrap32 a) (wrap32 b);simp only[Er];exact IntWalk.wrap64_in _ (by omega))
   | (have h:=EO .xor (by simp) (wrap32 a) (wrap32 b);simp only[Er];exact IntWalk.wrap64_in _ (by omega))
   | (have h:=EO .or (by simp) (wrap32 a) (wrap32 b);simp only[Er];exact IntWalk.wrap64_in _ (by omega))
set_option maxHeartbeats 4000000 in
theorem Aig (op a b:Int)(w:World)(ho:op=13∨op=14∨op=15∨op=16∨op=17∨op=18) :
  Calls Tryz.prog 175 #[.int .i64 op,.int .i64 a,.int .i64 b] w fun e w'=>e=.returned (.tuple #[.int .i64 (Er op a b),.int .i64 (Hy op b)])/\w=w':=by
 have hy:=Br b
 rcases ho with rfl | rfl | rfl | rfl | rfl | rfl
 all_goals
  go_enter Tryz.func175,Tryz.ntmps175
  go_wp2
  refine Gq 1 rfl (fun J hJ=>?_)
  go_wp2
  go_step3
  refine⟨rfl,hJ _ _ ?_⟩
  go_wp2_with (first | (go_at_call 195;(with_reducible refine(AdA _ _ _ (by omega) (by omega)).mono ?_);rintro e w1 ⟨rfl,rfl⟩) | (go_at_call 194;(with_reducible refine(WH _ _).mono ?_);rintro e w1 ⟨rfl,rfl⟩))
  rw[Exit.noGoto_ret]
  go_ret2
  exact⟨Gv (by simp only[Er];rfl) (by simp[Hy]),rfl⟩
set_option maxHeartbeats 400000 in
theorem Agi (op:Int)(a b:Int)(w:World)(ho:op<6∨21<op) :
  Calls Tryz.prog 175 #[.int .i64 op,.int .i64 a,.int .i64 b] w fun e w'=>e=.returned (.tuple #[.int .i64 (Er op a b),.int .i64 (Hy op b)])/\w=w':=by
 have hy:=Br b
 have HV:Hid (Er op a b=0):=by unfold Hid Er;repeat (rw[Alg (by omega)])
 have HE:Hid (Hy op b=42):=by unfold Hid Hy;rw[Alg (by omega),Alg (by omega)]
 have e6:(op==6)=false:=by simp;omega
 have e7:(op==7)=false:=by simp;omega
 have e8:(op==8)=false:=by simp;omega
 have e9:(op==9)=false:=by simp;omega
 have e10:(op==10)=false:=by simp;omega
 have e11:(op==11)=false:=by simp;omega
 have e12:(op==12)=false:=by simp;omega
 have e13:(op==13)=false:=by simp;omega
 have e14:(op==14)=false:=by simp;omega
 have e15:(op==15)=false:=by simp;omega
 have e16:(op==16)=false:=by simp;omega
 have e17:(op==17)=false:=by simp;omega
 have e18:(op==18)=false:=by simp;omega
 have e19:(op==19)=false:=by simp;omega
 have e20:(op==20)=false:=by simp;omega
 have e21:(op==21)=false:=by simp;omega
 clear ho
 go_enter Tryz.func175,Tryz.ntmps175
 go_wp2
 refine Gq 1 rfl (fun J hJ=>?_)
 go_wp2
 go_step3
 refine⟨rfl,hJ _ _ ?_⟩
 go_wp2
 rw[Exit.noGoto_ret]
 go_ret2
 exact⟨Gv HV.out.symm HE.out.symm,rfl⟩
theorem AkN (op a b:Int)(w:World) :
  Calls Tryz.prog 175 #[.int .i64 op,.int .i64 a,.int .i64 b] w fun e w'=>e=.returned (.tuple #[.int .i64 (Er op a b),.int .i64 (Hy op b)])/\w=w':=by
 by_cases ho:op<6∨21<op
 ·exact Agi op a b w ho
 by_cases h7:op=7
 ·subst h7;exact Aij a b w
 by_cases h8:op=8
 ·subst h8;exact Aii a b w
 by_cases hb:13<=op/\op<=18
 ·exact Aig op a b w (by omega)
 ·exact Aih op a b w (by omega)
set_option maxHeartbeats 1000000 in
theorem AkO (op a:Int)(w:World) :
  Calls Tryz.prog 174 #[.int .i64 op,.int .i64 a] w fun e w'=>e=.returned (.tuple #[.int .i64 (M7 op a),.int .i64 (XO op)])/\w=w':=by
 by_cases ho:op=3∨op=4∨op=5
 ·rcases ho with rfl | rfl | rfl
  all_goals
   have hx:=Br a
   go_enter Tryz.func174,Tryz.ntmps174
   go_wp2_with (go_at_call 194;(with_reducible refine(WH _ _).mono ?_);rintro e w1 ⟨rfl,rfl⟩)
   go_ret2
   exact⟨Gv (by simp only[M7];first | rfl | exact Hh _ | exact(Afu a) | (simp;omega)) (by simp[XO]),rfl⟩
 have HV:Hid (M7 op a=0):=by unfold Hid M7;repeat (rw[Alg (by omega)])
 have HE:Hid (XO op=42):=by unfold Hid XO;rw[Alg (by omega)]
 have e3:(op==3)=false:=by simp;omega
 have e4:(op==4)=false:=by simp;omega
 have e5:(op==5)=false:=by simp;omega
 clear ho
 go_enter Tryz.func174,Tryz.ntmps174
 go_wp2
 go_ret2
 exact⟨Gv HV.out.symm HE.out.symm,rfl⟩
theorem Aa4 {m:D.Model}(h:CU m=(0,0)):HY m<0:=by
 unfold CU at h
 generalize (decide (128<m.Globals.length)||!decide (m.Init.length=m.Globals.length))=c1 at h
 generalize decide (0<=Fm m.Globals m.Init)=c2 at h
 generalize (decide (32<m.Shapes.length)||decide (32<m.Chans.length))=c3 at h
 generalize decide (0<=Gt m)=c4 at h
 generalize decide (0<=IY m)=c5 at h
 generalize (decide (m.Procs.length<1)||(decide (16<m.Procs.length)||(decide (m.Claim < -1)||(decide ((m.Procs.length:Int)<=m.Claim)||decide (4096<m.Exprs.length)))))=c6 at h
 cases c7:decide (0<=HY m) with
 | true=>rw[c7]at h;cases c1<;>cases c2<;>cases c3<;>cases c4<;>cases c5<;>cases c6<;>simp at h
 | false=>have:=Alk c7;omega
structure BY (e:D.Env):Prop where
 fits:DG e.M e.S=true
 may:Dq e.M=true
 wf:Ay e.M
 pid:-1<=e.Pid/\e.Pid<e.S.Procs.length
section
variable {e : D.Env}
theorem BY.fit (h:BY e):Fit e.S:=Tt h.may h.fits
theorem BY.tab (h:BY e):Aif e.M:=Pv (Cy h.may).1
theorem BY.expr (h:BY e):∀ i:Nat,i<e.M.Exprs.length->EN e.M i=true:=Vv (Aa4 (Cy h.may).1)
theorem BY.chan (h:BY e){c:D.Chan}(hc:c∈e.S.Chans):Dd e.M c=true:=by
 have h:=h.fits
 unfold DG at h
 simp only[Ak2]at h
 exact(Ck (d:=default) (f:=fun c=>Dd e.M c)).1 h.1.1.2 c hc
theorem BY.proc (h:BY e){p:D.Process}(hp:p∈e.S.Procs):A2 e.M p=true:=by
 have h:=h.fits
 unfold DG at h
 simp only[Ak2]at h
 exact(Ck (d:=default) (f:=fun c=>A2 e.M c)).1 h.1.2 p hp
theorem BY.globals (h:BY e):e.S.Globals.length=e.M.Globals.length/\Bx e.M.Globals e.S.Globals=true:=by
 have h:=h.fits
 unfold DG KT at h
 simp only[Ak2]at h
 have:=h.1.1.1.1.1.1.1.1.1
 exact⟨EI this,this⟩
theorem Ey {m:D.Model}{p:D.Process}(h:A2 m p=true):(0<=p.Type_/\p.Type_<m.Procs.length)/\(0<=p.Loc/\p.Loc<(A8 m p.Type_).Locs.length)/\p.Frame.length=(A8 m p.Type_).Frame.length/\Bx (A8 m p.Type_).Frame p.Frame=true/\p.Prio=(A8 m p.Type_).Prio/\p.Type_≠m.Claim:=by
 unfold A2 DY at h
 simp only[Ak2,Ak5]at h
 obtain⟨⟨⟨⟨⟨h1,h2⟩,h3⟩,h4⟩,h5⟩,h6⟩:=h
 exact⟨⟨h1,h2⟩,CC.1 h4,EI h6,h6,h5,h3⟩
theorem FE {m:D.Model}{c:D.Chan}(h:Dd m c=true):(0<=c.Shape/\c.Shape<m.Shapes.length)/\(c.Queue.length:Int)<=(BP m c.Shape).Room/\∀ x∈c.Queue,Bx (BP m c.Shape).Fields x=true:=by
 unfold Dd at h
 simp only[Ak2,Ak5]at h
 exact⟨CC.1 h.1.1,h.1.2,fun x hx=>(Ck (d:=[]) (f:=fun x=>Bx (BP m c.Shape).Fields x)).1 h.2 x hx⟩
end
abbrev vII (p:Int × Int):VV:=.tup [Aa p.1,Aa p.2]
abbrev LR (p:Int × Int × Int):VV:=.tup [Aa p.1,Aa p.2.1,Aa p.2.2]
theorem Bo {a b:Int}{q:Int × Int}(h:(a,b)=q):leO [] []/\VV.le (.tup [.sc (.int .i64 a),.sc (.int .i64 b)]) (.tup [.sc (.int .i64 q.1),.sc (.int .i64 q.2)]):=by
 subst h;exact⟨trivial,VV.le_refl _⟩
theorem Mu {a b c:Int}{q:Int × Int × Int}(h:(a,b,c)=q):leO [] []/\VV.le (.tup [.sc (.int .i64 a),.sc (.int .i64 b),.sc (.int .i64 c)]) (.tup [.sc (.int .i64 q.1),.sc (.int .i64 q.2.1),.sc (.int .i64 q.2.2)]):=by
 subst h;exact⟨trivial,VV.le_refl _⟩
theorem ct {α:Type}{c:Bool}{a b x:α}(h:c=true)(k:x=a):x=bif c then a else b:=by rw[h];exact k
theorem cf {α:Type}{c:Bool}{a b x:α}(h:c=false)(k:x=b):x=bif c then a else b:=by rw[h];exact k
theorem it {α:Type}{c:Prop}[Decidable c]{a b x:α}(h:c)(k:x=a):x=if c then a else b:=by rw[Alw h];exact k
theorem ie {α:Type}{c:Prop}[Decidable c]{a b x:α}(h:¬ c)(k:x=b):x=if c then a else b:=by rw[Alg h];exact k
abbrev EvS (e:D.Env)(a:Int)(p:Int × Int):Prop:=Ai Tryz.prog 94 [] [.tp (Af e),Aa a] [] (vII p)
theorem C0 {b:Bool}:Ai Tryz.prog 132 [] [Ac b] [] (vII (DU b)) :=
 Ah Al Am Tryz.func132 (by kernel_rfl) rfl (AaX _ _ b) ⟨fun h=>Bo (by rw[h]<;>rfl),fun h=>Bo (by rw[h];rfl)⟩
theorem AH (a b:Int):(a != b)=decide (a≠b):=by rw[Alq];simp
theorem K4 {e:D.Env}{ev:Evl}{a:Int}(h:EvS e a (ev a)):Ai Tryz.prog 171 [] [.tp (Af e),Aa a] [] (vII (DF e ev a)):=by
 refine Ah Al Am Tryz.func171 (by kernel_rfl) rfl (AaA _ _ e a) ⟨ev a,h,fun h=>Bo (ct (by simpa using h) rfl),fun h=>⟨fun h2=>Bo (cf (by simpa using h) (ct ?_ rfl)),fun h2=>Bo (cf (by simpa using h) (cf ?_ rfl))⟩⟩
 ·rw[A3]at h2;exact h2
 ·rw[A3]at h2;exact h2
theorem TA {e:D.Env}{ev:Evl}{a:Int}(hE:BY e)(h:¬ (DF e ev a).2≠0):1<=(DF e ev a).1/\(DF e ev a).1<=e.S.Chans.length/\e.S.Chans.length<=32:=by
 have hc:=hE.fit.c
 unfold DF at h ⊢
 cases h1:decide ((ev a).2≠0) with
 | true=>rw[h1]at h;have:=Ak9 h1;exact absurd h (by simpa using this)
 | false =>
  rw[h1]at h
  simp only[Ak0]at h ⊢
  cases h2:(decide ((ev a).1<1)||decide ((e.S.Chans.length:Int)<(ev a).1)) with
  | true=>rw[h2]at h;simp at h
  | false =>
   simp only[Aln,AlB]at h2
   simp only[Ak0]
   omega
theorem X7 {l:List Int}{v:Int}(hl:Len l.length):Ai Tryz.prog 193 [] [Ad true l,Aa v] [] (Aa (IQ v 0 l)):=by
 unfold Len at hl
 refine Ah Al Am Tryz.func193 (by kernel_rfl) rfl (AcE _ l v) ?_
 refine AK Al Am l.length (fun k=>Za l v k) (fun k=>IQ v 0 l=IQ v k (l.drop k)) (by kernel_rfl) (by kernel_rfl) rfl ?_
 intro k hk hI J next
 refine Alu (X8 _ l v k J) ⟨fun hlt=>?_,fun hge=>C2 ?_⟩
 ·have hlt':k<l.length:=by have:=AV hlt;omega
  have hto:(k:Int).toNat=k:=by omega
  rw[hto]
  rw[B8 (d:=0) hlt']at hI
  rw[AcG]at hI
  refine⟨by omega,fun hy=>C2 ?_,fun hy=>next _ hlt' ?_ (Up.of ?_)⟩
  ·rw[ieq]at hy;rw[hI,hy,Ak4]
  ·rw[ieq]at hy;rw[hI,hy,Ak0]
  ·rw[An (by omega)]<;>rfl
 ·have hge':l.length<=k:=by have:=A0 hge;omega
  rw[hI,AlK hge']<;>rfl
theorem Q1 {l:List Int}{v:Int}(hl:Len l.length):Ai Tryz.prog 173 [] [Ad true l,Aa v] [] (Ac (decide (v∈l))) :=
 Ah Al Am Tryz.func173 (by kernel_rfl) rfl (Tv _ l v) ⟨_,X7 hl,AG (by rw[ZP (k:=0)])⟩
theorem Adm {e:D.Env}{ev:Evl}{x:D.Expr}(hE:BY e)(h:EvS e x.A (ev x.A)):Ai Tryz.prog 130 [] [.tp (Af e),.agg (AS x)] [] (vII (Si e ev x)):=by
 refine Ah Al Am Tryz.func130 (by kernel_rfl) rfl (Af2 _ _ e x) ⟨DF e ev x.A,K4 h,fun h=>Bo (ct (by simpa using h) rfl),fun h=>?_⟩
 have h0:decide ((DF e ev x.A).2≠0)=false:=by simpa using h
 have hq:Si e ev x=AjD x.Op (BP e.M (Cl e (DF e ev x.A).1).Shape).Room (Cl e (DF e ev x.A).1).Queue.length:=by unfold Si;rw[h0]<;>rfl
 rw[hq]
 have hn:=TA hE (Alk h0)
 generalize (DF e ev x.A).1=n at hn
 rw[Bt (by omega) (by omega)]
 have hc:=hE.chan (Av (d:=default) (show(n - 1).toNat<e.S.Chans.length by omega))
 have hs:=(FE hc).1
 refine⟨by omega,hs,fun h1=>Bo (it (by simpa using h1) rfl),fun h1=>⟨fun h2=>⟨_,C0,Bo (ie (by simpa using h1) (it (by simpa using h2) rfl))⟩,fun h2=>⟨fun h3=>⟨_,C0,Bo (ie (by simpa using h1) (ie (by simpa using h2) (it (by simpa using h3) rfl)))⟩,fun h3=>⟨fun h4=>⟨_,C0,Bo (ie (by simpa using h1) (ie (by simpa using h2) (ie (by simpa using h3) (it (by simpa using h4) ?_))))⟩,fun h4=>⟨_,C0,Bo (ie (by simpa using h1) (ie (by simpa using h2) (ie (by simpa using h3) (ie (by simpa using h4) ?_))))⟩⟩⟩⟩⟩
 ·rw[ieq]<;>rfl
 ·rfl
theorem UL {e:D.Env}{ev:Evl}{x:D.Expr}(h:EvS e x.A (ev x.A))(hl:Len x.Args.length):Ai Tryz.prog 134 [] [.tp (Af e),.agg (AS x)] [] (vII (Kq e ev x)):=by
 refine Ah Al Am Tryz.func134 (by kernel_rfl) rfl (Xr _ _ e x) ⟨ev x.A,h,fun h=>Bo (ct (by simpa using h) rfl),fun h=>?_⟩
 have h0:decide ((ev x.A).2≠0)=false:=by simpa using h
 have hq:Kq e ev x=bif decide ((ev x.A).1<0)||(decide ((e.S.Procs.length:Int)<=(ev x.A).1)||(decide (x.Op=38)&&decide ((DP e (ev x.A).1).Type_≠x.N))) then(0,52)
   else bif decide (x.Op=37) then((DP e (ev x.A).1).Loc,0) else DU (decide ((DP e (ev x.A).1).Loc∈x.Args)):=by unfold Kq;rw[h0]<;>rfl
 rw[hq]
 generalize (ev x.A).1=n
 refine⟨fun h1=>?_,fun h1=>?_,fun h1=>⟨fun h2=>⟨?_,Bo (cf ?_ (ct (by simpa using h2) rfl))⟩,fun h2=>⟨?_,_,Q1 hl,_,C0,Bo (cf ?_ (cf (by simpa using h2) rfl))⟩⟩⟩
 ·simp at h1;omega
 ·simp only[A3,A6,ieq,AH,Amu,Amb]at h1;exact Bo (ct h1 rfl)
 ·simp at h1;omega
 ·simp only[A3,A6,ieq,AH,Amu,Amb]at h1;exact h1
 ·simp at h1;omega
 ·simp only[A3,A6,ieq,AH,Amu,Amb]at h1;exact h1
theorem Lm {e:D.Env}{a:Int}{p:Int × Int}(h:EvS e a p):Ai Tryz.prog 170 [] [Aa a,.tp [.tp (Af e)]] [] (vII p) :=
 Ah Al Am Tryz.func170 (by kernel_rfl) rfl (Acs _ _ e a) ⟨p,h,Bo rfl⟩
theorem P9 {e:D.Env}{ev:Evl}{x:D.Expr}(h:EvS e x.A (ev x.A))(hB:EvS e x.B (ev x.B))(hC:x.Op=24->EvS e x.C (ev x.C)):Ai Tryz.prog 129 [] [.tp (Af e),.agg (AS x)] [] (vII (Nc ev x)):=by
 refine Ah Al Am Tryz.func129 (by kernel_rfl) rfl (Acv _ _ e x) ⟨ev x.A,h,fun h=>Bo (ct (by simpa using h) rfl),fun h=>?_⟩
 have h0:decide ((ev x.A).2≠0)=false:=by simpa using h
 have hq:Nc ev x=bif decide (x.Op=24) then(bif decide ((ev x.A).1≠0) then ev x.B else ev x.C)
   else bif (decide (x.Op=22)&&decide ((ev x.A).1=0))||(decide (x.Op=23)&&decide ((ev x.A).1≠0)) then DU (decide ((ev x.A).1≠0))
   else bif decide ((ev x.B).2≠0) then(0,(ev x.B).2) else DU (decide ((ev x.B).1≠0)):=by unfold Nc;rw[h0]<;>rfl
 rw[hq]
 generalize (ev x.A).1=n
 refine⟨fun h1=>⟨_,Lm hB,?_⟩,fun h1=>⟨fun h2=>⟨_,Lm (hC (by simpa using h2)),?_⟩,fun h2=>⟨fun h3=>⟨_,C0,?_⟩,fun h3=>⟨_,Lm hB,fun h4=>?_,fun h4=>⟨_,C0,?_⟩⟩⟩⟩⟩
 ·simp only[A6,ieq,AH,Ak2]at h1
  exact Bo (ct h1.1 (ct h1.2 rfl))
 ·have h2':decide (x.Op=24)=true:=by simpa using h2
  simp only[A6,ieq,AH,h2',AlV]at h1
  exact Bo (ct h2' (cf h1 rfl))
 ·have h2':decide (x.Op=24)=false:=by simpa using h2
  simp only[A6,A3,ieq,AH]at h3
  rw[AH]
  exact Bo (cf h2' (ct h3 rfl))
 ·have h2':decide (x.Op=24)=false:=by simpa using h2
  simp only[A6,A3,ieq,AH]at h3
  exact Bo (cf h2' (cf h3 (ct (by simpa using h4) rfl)))
 ·have h2':decide (x.Op=24)=false:=by simpa using h2
  simp only[A6,A3,ieq,AH]at h3
  rw[AH]
  exact Bo (cf h2' (cf h3 (cf (by simpa using h4) rfl)))
theorem Ace {op a:Int}:Ai Tryz.prog 174 [] [Aa op,Aa a] [] (vII (M7 op a,XO op)):=by
 refine Ai.hand ⟨_,Tryz.func174,rfl,by kernel_rfl⟩ fun w E vs hA hL _ _ hs=>?_
 obtain⟨u1,us1,rfl,v1,hs⟩:=hs.cons_inv
 obtain⟨u2,us2,rfl,v2,hs⟩:=hs.cons_inv
 obtain rfl:=hs.nil_inv
 rw[v1.sc_inv,v2.sc_inv]
 refine(AkO op a w).mono ?_
 rintro e w' ⟨rfl,rfl⟩
 exact⟨_,rfl,MS .sc .sc,Below.refl _ _⟩
theorem AaW {op a b:Int}:Ai Tryz.prog 175 [] [Aa op,Aa a,Aa b] [] (vII (Er op a b,Hy op b)):=by
 refine Ai.hand ⟨_,Tryz.func175,rfl,by kernel_rfl⟩ fun w E vs hA hL _ _ hs=>?_
 obtain⟨u1,us1,rfl,v1,hs⟩:=hs.cons_inv
 obtain⟨u2,us2,rfl,v2,hs⟩:=hs.cons_inv
 obtain⟨u3,us3,rfl,v3,hs⟩:=hs.cons_inv
 obtain rfl:=hs.nil_inv
 rw[v1.sc_inv,v2.sc_inv,v3.sc_inv]
 refine(AkN op a b w).mono ?_
 rintro e w' ⟨rfl,rfl⟩
 exact⟨_,rfl,MS .sc .sc,Below.refl _ _⟩
theorem Rp {e:D.Env}{ev:Evl}{x:D.Expr}(h:EvS e x.A (ev x.A))(hB:¬ (x.Op=3∨x.Op=4∨x.Op=5)->EvS e x.B (ev x.B)):Ai Tryz.prog 135 [] [.tp (Af e),.agg (AS x)] [] (vII (Rq ev x)):=by
 refine Ah Al Am Tryz.func135 (by kernel_rfl) rfl (AdW _ _ e x) ⟨ev x.A,h,fun h=>Bo (ct (by simpa using h) rfl),fun h=>?_⟩
 have h0:decide ((ev x.A).2≠0)=false:=by simpa using h
 have hq:Rq ev x=bif decide (x.Op=3)||(decide (x.Op=4)||decide (x.Op=5)) then(M7 x.Op (ev x.A).1,XO x.Op)
   else bif decide ((ev x.B).2≠0) then(0,(ev x.B).2) else(Er x.Op (ev x.A).1 (ev x.B).1,Hy x.Op (ev x.B).1):=by unfold Rq;rw[h0]<;>rfl
 rw[hq]
 generalize (ev x.A).1=n
 refine⟨fun h1=>⟨_,Ace,Bo (ct ?_ rfl)⟩,fun h1=>⟨ev x.B,hB ?_,fun h2=>Bo (cf ?_ (ct (by simpa using h2) rfl)),fun h2=>⟨_,AaW,Bo (cf ?_ (cf (by simpa using h2) rfl))⟩⟩⟩
 ·simpa only[A3,ieq,Amb] using h1
 ·simp at h1;omega
 ·simpa only[A3,ieq,Amb] using h1
 ·simpa only[A3,ieq,Amb] using h1
theorem Acj {x l mt:List Int}(hm:Len mt.length):Ai Tryz.prog 192 [] [Ad true x,Ad false l,Ad true mt] [] (Ac (Ij x l mt)):=by
 unfold Len at hm
 refine Ah Al Am Tryz.func192 (by kernel_rfl) rfl (Afa _ x l mt) ⟨fun h=>AG ?_,fun h=>?_⟩
 ·symm;unfold Ij
  rw[A3]at h
  rw[AlZ];intro hq
  simp only[Ak2,Ak5]at hq
  simp at h;omega
 ·have hl:mt.length<=x.length/\mt.length<=l.length:=by simp at h;omega
  have e0:Ij x l mt=Ed mt.length fun i=>!(decide (mt.getD i 0=1)&&decide (x.getD i 0≠l.getD i 0)):=by
   unfold Ij
   rw[AlO hl.1,AlO hl.2]<;>rfl
  rw[e0]
  refine AK Al Am mt.length (fun k=>SM x l mt k) (fun k=>∀ i,i<k->(!(decide (mt.getD i 0=1)&&decide (x.getD i 0≠l.getD i 0)))=true) (by kernel_rfl) (by kernel_rfl) (fun i hi=>by omega) ?_
  intro k hk hI J next
  refine Alu (Ack _ x l mt k J) ⟨fun hlt=>?_,fun hge=>AG ?_⟩
  ·have hlt':k<mt.length:=by have:=AV hlt;omega
   have hto:(k:Int).toNat=k:=by omega
   rw[hto]
   refine⟨by omega,fun _=>by omega,fun _=>by omega,fun hy=>AG ?_,fun hy=>next _ hlt' (FM hI ?_) (Up.of ?_)⟩
   ·simp only[A6,ieq,AH]at hy
    exact(De (f:=fun i=>!(decide (mt.getD i 0=1)&&decide (x.getD i 0≠l.getD i 0))) hlt' (by rw[hy]<;>rfl)).symm
   ·simp only[A6,ieq,AH]at hy
    rw[hy]<;>rfl
   ·rw[An (by omega)]<;>rfl
  ·have hge':mt.length<=k:=by have:=A0 hge;omega
   exact(Bz.2 fun i hi=>hI i (by omega)).symm
theorem Yo {l mt:List Int}{any:Bool}{k:Nat}{x:List Int}{q:List (List Int)}:R7 l mt any k (x::q)=bif Ij x l mt then(k:Int) else bif any then R7 l mt any (k+1) q else -1:=rfl
theorem R5 {c:D.Chan}{l mt:List Int}{any:Bool}(hc:Len c.Queue.length)(hm:Len mt.length):Ai Tryz.prog 172 [] [.agg (AB c),Ad false l,Ad true mt,Ac any] [] (Aa (JN c l mt any)):=by
 unfold Len at hc
 refine Ah Al Am Tryz.func172 (by kernel_rfl) rfl (Afz _ c l mt any) ?_
 unfold JN
 refine AK Al Am c.Queue.length (fun k=>SO c l mt any k) (fun k=>R7 l mt any 0 c.Queue=R7 l mt any k (c.Queue.drop k)) (by kernel_rfl) (by kernel_rfl) rfl ?_
 intro k hk hI J next
 refine Alu (AcV _ c l mt any k J) ⟨fun hlt=>?_,fun hge=>C2 ?_⟩
 ·have hlt':k<c.Queue.length:=by have:=AV hlt;omega
  have hto:(k:Int).toNat=k:=by omega
  rw[hto]
  rw[B8 (d:=[]) hlt',Yo]at hI
  refine⟨by omega,_,Acj hm,fun hy=>C2 ?_,fun hy=>⟨fun ha=>C2 ?_,fun ha=>next _ hlt' ?_ (Up.of ?_)⟩⟩
  ·rw[hI,hy,Ak4]
  ·rw[hI,hy,Ak0,show any=false by simpa using ha,Ak0]
  ·rw[hI,hy,Ak0,show any=true by simpa using ha,Ak4]
  ·rw[An (by omega)]<;>rfl
 ·have hge':c.Queue.length<=k:=by have:=A0 hge;omega
  rw[hI,AlK hge']<;>rfl
theorem KE {f:Nat->Int}:∀ {n:Nat},(∀ i,i<n->f i=0)->Yu n f=0
 | 0,_=>rfl
 | n+1,h=>by
  unfold Yu
  rw[KE fun i hi=>h i (by omega),h n (by omega)]<;>rfl
theorem Qm {f:Nat->Int}{k:Nat}(h:∀ i,i<k->f i=0)(hf:f k≠0):∀ {n:Nat},k<n->Yu n f=f k
 | 0,hk=>by omega
 | n+1,hk=>by
  unfold Yu
  by_cases hkn:k=n
  ·subst hkn;rw[KE h]<;>rfl
  ·rw[Qm h hf (n:=n) (by omega),AlO hf,Ak4]
def BZ (ev:Evl)(args mt:List Int)(k:Nat):List Int:=(List.range args.length).map fun i=>if i<k then(El ev (args.getD i 0) (mt.getD i 0)).1 else 0
theorem Ce {ev:Evl}{args mt:List Int}{k:Nat}:(BZ ev args mt k).length=args.length:=by simp[BZ]
theorem Fk {ev:Evl}{args mt:List Int}{k i:Nat}(hi:i<args.length):(BZ ev args mt k).getD i 0=if i<k then(El ev (args.getD i 0) (mt.getD i 0)).1 else 0:=by
 simp[BZ,List.getD,hi]
theorem Pb {ev:Evl}{args mt:List Int}:BZ ev args mt args.length=MR ev args mt:=by
 unfold BZ MR
 apply Amg
 intro i hi
 rw[Alw (AlP.1 hi)]
theorem Ab2 {e:D.Env}{ev:Evl}{x:D.Expr}(hE:BY e)(h:EvS e x.A (ev x.A))(ha:∀ a∈x.Args,EvS e a (ev a))(hl:x.Args.length<=8)(hm:x.Match.length=x.Args.length):Ai Tryz.prog 131 [] [.tp (Af e),.agg (AS x)] [] (vII (RJ e ev x)):=by
 refine Ah Al Am Tryz.func131 (by kernel_rfl) rfl (AeV _ _ e x) ⟨DF e ev x.A,K4 h,fun h=>Bo (ct (by simpa using h) rfl),fun h=>?_⟩
 have h0:decide ((DF e ev x.A).2≠0)=false:=by simpa using h
 have hq:RJ e ev x=bif decide ((BP e.M (Cl e (DF e ev x.A).1).Shape).Fields.length≠x.Args.length) then(0,49)
   else bif decide (EP ev x.Args x.Match x.Args.length≠0) then(0,EP ev x.Args x.Match x.Args.length)
   else DU (decide (0<=JN (Cl e (DF e ev x.A).1) (MR ev x.Args x.Match) x.Match (decide (x.N=1)))):=by unfold RJ;rw[h0]<;>rfl
 rw[hq]
 have hn:=TA hE (Alk h0)
 generalize (DF e ev x.A).1=n at hn
 rw[Bt (by omega) (by omega)]
 have hcm:=Av (d:=default) (show(n - 1).toNat<e.S.Chans.length by omega)
 have hc:=hE.chan hcm
 have hs:=(FE hc).1
 have hql:=(hE.fit.q _ hcm).1
 refine⟨by omega,hs,fun h1=>Bo (ct ?_ rfl),fun h1=>⟨by omega,?_⟩⟩
 ·rw[AH]at h1
  have:=Ak9 h1
  rw[Ak5]
  intro hh
  apply this
  have hh':(e.M.Shapes.getD (e.S.Chans.getD (n - 1).toNat default).Shape.toNat default).Fields.length=x.Args.length:=hh
  rw[hh']
 have h1':decide ((BP e.M (Cl e n).Shape).Fields.length≠x.Args.length)=false:=by
  rw[AH]at h1
  have:=Alk h1
  rw[AlB]
  intro hh
  apply this
  intro h2
  apply hh
  exact Int.ofNat.inj h2
 rw[h1',Ak0]
 have hcdef:e.S.Chans.getD (n - 1).toNat default=Cl e n:=rfl
 clear hq h1 hs hc
 generalize Cl e n=c at hcdef
 have hqc:c.Queue.length<=16:=by rw[← hcdef];exact hql
 refine Bh Al Am (fun gg st=>∃ k:Nat,k<=x.Args.length/\gg=x.Args.length - k/\(∀ i,i<k->(El ev (x.Args.getD i 0) (x.Match.getD i 0)).2=0)/\st=Xa e x c (BZ ev x.Args x.Match k) k) (by kernel_rfl) (by kernel_rfl)
  ⟨x.Args.length,Up.mk (l':=[(0,.tp (Af e)),(3,.bp 0 0),(8,.bp 1 0),(9,.ow 2 0 (BZ ev x.Args x.Match 0).length),(51,Ad true x.Args),(52,Aa x.Args.length),(53,Aa ((0:Nat):Int))])
   (hs':=[.box (AS x),.box (AB c),.arr true 0 (BZ ev x.Args x.Match 0).length 1 (AM (BZ ev x.Args x.Match 0))]) ?_ ?_ ⟨0,Alc _,rfl,fun i hi=>by omega,rfl⟩⟩ ?_
 ·rw[Ce];exact AO _
 ·rw[Ce]
  refine⟨Ob.le_refl _,by rw[← hcdef];exact Ob.le_refl _,AlM fun i hi=>AQ ?_,trivial⟩
  have hz:AM (BZ ev x.Args x.Match 0) i=[Aa 0]:=by
   unfold AM
   rw[Fk (by omega),Alg (Amq _)]
  refine Eq.trans ?_ hz.symm
  rfl
 ·rintro gg st ⟨k,hk,rfl,hI,rfl⟩
  refine Alu (Ab3 _ _ e x c _ k _) ⟨fun hlt=>?_,fun hge=>?_⟩
  ·have hlt':k<x.Args.length:=by have:=AV hlt;omega
   have hto:(k:Int).toNat=k:=by omega
   rw[hto]
   refine⟨by omega,by omega,fun hy=>?_,fun hy=>⟨ev (x.Args.getD k 0),ha _ (Av hlt'),by rw[Ce];omega,fun hz=>Bo ?_,fun hz=>?_⟩⟩
   ·rw[AH]at hy
    have h1:=Ak9 hy
    have hv:El ev (x.Args.getD k 0) (x.Match.getD k 0)=(0,0):=by unfold El;rw[AlI h1]<;>rfl
    have e1:BZ ev x.Args x.Match k=BZ ev x.Args x.Match (k+1):=by
     unfold BZ
     apply Amg
     intro i _
     by_cases hik:i=k
     ·subst hik;rw[Alg (Am8 _),Alw (Al2 _),hv]
     ·by_cases hlt2:i<k
      ·rw[Alw hlt2,Alw (by omega)]
      ·rw[Alg hlt2,Alg (by omega)]
    rw[e1,An (by omega)]
    exact⟨x.Args.length - (k+1),by omega,Up.of ⟨k+1,by omega,rfl,FM hI (by rw[hv]),rfl⟩⟩
   ·have hm1:decide (x.Match.getD k 0=1)=true:=by rw[AH]at hy;simpa using hy
    have hv:El ev (x.Args.getD k 0) (x.Match.getD k 0)=ev (x.Args.getD k 0):=by unfold El;rw[hm1]<;>rfl
    have hnz:(El ev (x.Args.getD k 0) (x.Match.getD k 0)).2≠0:=by rw[hv];simpa using hz
    have he:EP ev x.Args x.Match x.Args.length=(ev (x.Args.getD k 0)).2:=by
     unfold EP
     rw[Qm (f:=fun i=>(El ev (x.Args.getD i 0) (x.Match.getD i 0)).2) hI hnz hlt',hv]
    rw[he]
    exact ct (by simpa using hz) rfl
   ·have hm1:decide (x.Match.getD k 0=1)=true:=by rw[AH]at hy;simpa using hy
    have hv:El ev (x.Args.getD k 0) (x.Match.getD k 0)=ev (x.Args.getD k 0):=by unfold El;rw[hm1]<;>rfl
    have h2:(ev (x.Args.getD k 0)).2=0:=by simpa using hz
    rw[An (by omega)]
    refine⟨x.Args.length - (k+1),by omega,Up.mk (l':=[(0,.tp (Af e)),(3,.bp 0 0),(8,.bp 1 0),(9,.ow 2 0 (BZ ev x.Args x.Match (k+1)).length),(51,Ad true x.Args),(52,Aa x.Args.length),(53,Aa ((k+1:Nat):Int))])
     (hs':=[.box (AS x),.box (AB c),.arr true 0 (BZ ev x.Args x.Match (k+1)).length 1 (AM (BZ ev x.Args x.Match (k+1)))]) ?_ ?_ ⟨k+1,by omega,rfl,FM hI (by rw[hv];exact h2),rfl⟩⟩
    ·rw[Ce,Ce];exact AO _
    ·rw[Ce,Ce]
     refine⟨Ob.le_refl _,Ob.le_refl _,AlM fun i hi=>AQ ?_,trivial⟩
     show(bif i.beq k then[Aa (ev (x.Args.getD k 0)).1] else[Aa ((BZ ev x.Args x.Match k).getD i 0)])=[Aa ((BZ ev x.Args x.Match (k+1)).getD i 0)]
     rw[Fk hi,Fk hi]
     cases hq:i.beq k with
     | true =>
      have:=Ak7 hq;subst this
      rw[Ak4,Alw (Al2 _),hv]
     | false =>
      have:i≠k:=Nat.ne_of_beq_eq_false hq
      rw[Ak0]
      by_cases hlt2:i<k
      ·rw[Alw hlt2,Alw (by omega)]
      ·rw[Alg hlt2,Alg (by omega)]
  ·obtain rfl:k=x.Args.length:=by have:=A0 hge;omega
   have he:EP ev x.Args x.Match x.Args.length=0:=KE hI
   rw[he,Pb]
   refine⟨_,R5 (by unfold Len;omega) (by unfold Len;omega),_,C0,Bo (cf rfl ?_)⟩
   rw[ieq]
theorem Vj {e:D.Env}{ev:Evl}{v:D.Var}(hE:BY e)(hv:K5 v)(hw:¬ (v.Scope=0∨v.Scope=1)->EvS e v.Who (ev v.Who)):Ai Tryz.prog 169 [] [.tp (Af e),.agg (Cq v)] [] (vII (Dm e ev v)):=by
 have hp:=hE.pid
 refine Ah Al Am Tryz.func169 (by kernel_rfl) rfl (Yb _ _ e v) ⟨fun h=>⟨_,GP hv,fun h1=>Bo ?_,fun h1=>Bo ?_⟩,fun h=>⟨fun h1=>⟨_,fun _=>GP hv,fun h2=>?_,fun h2=>Bo ?_,fun h2=>Bo ?_⟩,fun h1=>⟨_,hw ?_,fun h2=>Bo ?_,fun h2=>⟨fun h3=>?_,fun h3=>Bo ?_,fun h3=>⟨_,GP hv,?_,fun h4=>Bo ?_,fun h4=>Bo ?_⟩⟩⟩⟩⟩
 ·exact ct (by simpa using h) (ct h1 rfl)
 ·exact ct (by simpa using h) (cf h1 rfl)
 ·simp at h2;omega
 ·exact cf (by simpa using h) (ct (by simpa using h1) (ct (by rw[A3]at h2;exact h2) rfl))
 ·exact cf (by simpa using h) (ct (by simpa using h1) (cf (by rw[A3]at h2;exact h2) rfl))
 ·simp at h h1;omega
 ·exact cf (by simpa using h) (cf (by simpa using h1) (ct (by simpa using h2) rfl))
 ·simp at h3;omega
 ·refine cf (by simpa using h) (cf (by simpa using h1) (cf (by simpa using h2) (ct ?_ rfl)))
  simp only[A3,AH,Amu,Amb]at h3;exact h3
 ·simp at h3;omega
 ·refine cf (by simpa using h) (cf (by simpa using h1) (cf (by simpa using h2) (cf ?_ (ct h4 rfl))))
  simp only[A3,AH,Amu,Amb]at h3;exact h3
 ·refine cf (by simpa using h) (cf (by simpa using h1) (cf (by simpa using h2) (cf ?_ (cf h4 rfl))))
  simp only[A3,AH,Amu,Amb]at h3;exact h3
theorem Qo {ev:Evl}{n:Int}{d:D.Dim}{l:List D.Dim}:FW ev n (d::l)=bif decide ((ev d.I).2≠0) then(0,(ev d.I).2) else bif decide ((ev d.I).1<0)||decide (d.Len<=(ev d.I).1) then(0,47) else FW ev (n+(ev d.I).1*d.Stride) l:=rfl
structure Aga (d:D.Dim):Prop where
 l1:1<=d.Len
 l2:d.Len<=128
 s1:0<=d.Stride
 s2:d.Stride<=128
theorem Ae9 {i s n:Int}(h0:0<=i)(h1:i<n)(h2:n<=128)(s0:0<=s)(s1:s<=128):0<=i*s/\i*s<=(n - 1)*s/\(n - 1)*s<=16384:=by
 have a:=Int.mul_nonneg h0 s0
 have b:=Int.mul_le_mul_of_nonneg_right (show i<=n - 1 by omega) s0
 have c:=Int.mul_le_mul (show n - 1<=128 by omega) s1 s0 (by omega)
 omega
theorem Abk {e:D.Env}{ev:Evl}{x:Int}(hE:BY e)(hx:0<=x/\x<e.M.Exprs.length)(hv:K5 (Aw e.M x).V)(hw:(Aw e.M x).Op=2->¬ ((Aw e.M x).V.Scope=0∨(Aw e.M x).V.Scope=1)->EvS e (Aw e.M x).V.Who (ev (Aw e.M x).V.Who))
  (hs:(Aw e.M x).Op=2->0<=(Aw e.M x).V.Slot/\(Aw e.M x).V.Slot<=128/\(Aw e.M x).V.Dims.length<=4) (hd:(Aw e.M x).Op=2->∀ d∈(Aw e.M x).V.Dims,Aga d/\EvS e d.I (ev d.I)):Ai Tryz.prog 128 [] [.tp (Af e),Aa x] [] (LR (BC e ev (Aw e.M x))):=by
 refine Ah Al Am Tryz.func128 (by kernel_rfl) rfl (Aec _ _ _ e x) ⟨hx,hx,fun h=>Mu (ct (by simpa[Aw] using h) rfl),fun h=>?_⟩
 have h0:(Aw e.M x).Op=2:=by simpa[Aw] using h
 change ∃ y:Int × Int,Ai Tryz.prog 169 [] [.tp (Af e),.agg (Cq (Aw e.M x).V)] [] (vII y)/\_
 replace hw:=hw h0
 replace hs:=hs h0
 replace hd:=hd h0
 have hq:BC e ev (Aw e.M x)=bif decide ((Dm e ev (Aw e.M x).V).2≠0) then(0,0,(Dm e ev (Aw e.M x).V).2)
   else bif decide ((FW ev (Aw e.M x).V.Slot (Aw e.M x).V.Dims).2≠0) then(0,0,(FW ev (Aw e.M x).V.Slot (Aw e.M x).V.Dims).2) else((Dm e ev (Aw e.M x).V).1,(FW ev (Aw e.M x).V.Slot (Aw e.M x).V.Dims).1,0):=by
  unfold BC;rw[AlI (by rw[h0];simp)];rfl
 rw[hq]
 refine⟨_,Vj hE hv hw,fun h1=>Mu (ct (by simpa using h1) rfl),fun h1=>?_⟩
 have h1':decide ((Dm e ev (Aw e.M x).V).2≠0)=false:=by simpa using h1
 rw[h1',Ak0]
 generalize (Dm e ev (Aw e.M x).V).1=who
 have hsl:=hs.1
 have hsl2:=hs.2
 change AA _ [1,1,1,1,1,1,0,1,0] (PD e (Aw e.M x).V.Dims who (Aw e.M x).V.Slot 0)
 clear hq hw hv h h1 h1' hs
 generalize (Aw e.M x).V.Dims=ds at hd hsl2 ⊢
 generalize (Aw e.M x).V.Slot=sl at hsl hsl2 ⊢
 generalize hR:FW ev sl ds=R
 refine Bh Al Am (fun gg st=>∃ (k:Nat) (n:Int),k<=ds.length/\gg=ds.length - k/\0<=n/\n<=128+16384*k/\FW ev n (ds.drop k)=R/\st=PD e ds who n k) (by kernel_rfl) (by kernel_rfl)
  ⟨ds.length,Up.of ⟨0,sl,Alc _,rfl,hsl,by omega,hR,rfl⟩⟩ ?_
 rintro gg st ⟨k,n,hk,rfl,hn0,hn1,hI,rfl⟩
 refine Alu (Abl _ _ _ e x ds who n k _) ⟨fun hlt=>?_,fun hge=>?_⟩
 ·have hlt':k<ds.length:=by have:=AV hlt;omega
  have hto:(k:Int).toNat=k:=by omega
  rw[hto]
  obtain⟨hD,hE'⟩:=hd _ (Av (d:=default) hlt')
  rw[B8 (d:=default) hlt',Qo]at hI
  generalize ds.getD k default=d at hD hE' hI ⊢
  refine⟨by omega,_,hE',fun h2=>Mu ?_,fun h2=>⟨fun h3=>Mu ?_,fun h3=>?_⟩⟩
  ·have h2':decide ((ev d.I).2≠0)=true:=by simpa using h2
   rw[h2',Ak4]at hI
   subst hI
   exact ct h2' rfl
  ·have h2':decide ((ev d.I).2≠0)=false:=by simpa using h2
   rw[A3]at h3
   rw[h2',Ak0]at hI
   have h3':(decide ((ev d.I).1<0)||decide (d.Len<=(ev d.I).1))=true:=h3
   rw[h3',Ak4]at hI
   subst hI
   exact ct rfl rfl
  ·have h2':decide ((ev d.I).2≠0)=false:=by simpa using h2
   rw[A3]at h3
   have h3':(decide ((ev d.I).1<0)||decide (d.Len<=(ev d.I).1))=false:=h3
   rw[h2',Ak0,h3',Ak0]at hI
   simp only[Aln,AlB]at h3'
   have hm:=Ae9 (i:=(ev d.I).1) (s:=d.Stride) (n:=d.Len) (by omega) (by omega) hD.l2 hD.s1 hD.s2
   have hk4:k<4:=by omega
   rw[Bt (n:=(ev d.I).1*d.Stride) (by omega) (by omega),Bt (by omega) (by omega),An (by omega)]
   exact⟨ds.length - (k+1),by omega,Up.of ⟨k+1,n+(ev d.I).1*d.Stride,by omega,rfl,by omega,by omega,hI,rfl⟩⟩
 ·obtain rfl:k=ds.length:=by have:=A0 hge;omega
  rw[AmQ]at hI
  subst hI
  exact Mu (cf rfl rfl)
theorem QZ {e:D.Env}(hE:BY e):Ai Tryz.prog 133 [] [.tp (Af e)] [] (Ac (Ks e)):=by
 have hpl:=hE.fit.p
 refine Ah Al Am Tryz.func133 (by kernel_rfl) rfl (S4 _ e) ?_
 refine AK Al Am e.S.Procs.length (fun k=>SK e k) (fun k=>∀ i,i<k->(!((IM e.M (e.S.Procs.getD i default).Type_).getD (e.S.Procs.getD i default).Loc.toNat default).Progress)=true) (by kernel_rfl) (by kernel_rfl) (fun i hi=>by omega) ?_
 intro k hk hI J next
 refine Alu (Q0 _ e k J) ⟨fun hlt=>?_,fun hge=>AG ?_⟩
 ·have hlt':k<e.S.Procs.length:=by have:=AV hlt;omega
  have hto:(k:Int).toNat=k:=by omega
  rw[hto]
  have hf:=Ey (hE.proc (Av (d:=default) hlt'))
  refine⟨by omega,hf.1,hf.2.1,fun hy=>AG ?_,fun hy=>next _ hlt' (FM hI ?_) (Up.of ?_)⟩
  ·unfold Ks
   rw[De (f:=fun i=>!((IM e.M (e.S.Procs.getD i default).Type_).getD (e.S.Procs.getD i default).Loc.toNat default).Progress) hlt' (by show(!_)=false;unfold IM;rw[hy]<;>rfl)];rfl
  ·show(!_)=true
   unfold IM;rw[hy]<;>rfl
  ·rw[An (by omega)]<;>rfl
 ·have hge':e.S.Procs.length<=k:=by have:=A0 hge;omega
  unfold Ks
  rw[Bz.2 fun i hi=>hI i (by omega)]<;>rfl
structure V8 (m:D.Model) (k:Int) (x:D.Expr):Prop where
 op:1<=x.Op/\x.Op<=39
 a:1<=Bf x.Op->0<=x.A/\x.A<k
 b:2<=Bf x.Op->0<=x.B/\x.B<k
 c:3<=Bf x.Op->0<=x.C/\x.C<k
 num:x.Op=1->DD ⟨32,true⟩ x.N=true
 var:x.Op=2->EH m k x.V=true
 poll:x.Op=30->Cu m k x.Args x.Match=true
theorem S7 {k op p:Int}{i:Nat}(h:FU k op i p=true)(hi:i<Bf op):0<=p/\p<k:=by
 unfold FU at h
 rw[AlO hi,Ak4]at h
 exact CC.1 h
theorem ZV {m:D.Model}{k:Int}(h:EN m k=true):V8 m k (Aw m k):=by
 unfold EN at h
 simp only[Ak2,Ak5]at h
 obtain⟨⟨h1,⟨hA,hB⟩,hC⟩,h3⟩:=h
 refine⟨h1,fun hi=>S7 hA (by omega),fun hi=>S7 hB (by omega),fun hi=>S7 hC (by omega),fun ho=>?_,fun ho=>?_,fun ho=>?_⟩
 ·rw[Alw ho]at h3;exact h3
 ·rw[Alg (by omega),Alw ho]at h3;exact h3
 ·rw[Alg (by omega),Alg (by omega),Alw ho,Ak2]at h3;exact h3.1
theorem Acn {k:Int}{l:List Int}(h:C7 k l=true):∀ a∈l,0<=a/\a<k:=fun a ha =>
 CC.1 ((Ck (d:=0) (f:=fun a=>inP k a)).1 h a ha)
structure Aaa (m:D.Model) (k:Int) (v:D.Var):Prop where
 scope:0<=v.Scope/\v.Scope<=2
 slot:0<=v.Slot/\v.Slot<=128
 dims:v.Dims.length<=4
 who:v.Scope=2->0<=v.Who/\v.Who<k
 dim:∀ d∈v.Dims,Aga d/\0<=d.I/\d.I<k
theorem K8 {m:D.Model}{k:Int}{v:D.Var}(h:EH m k v=true):Aaa m k v:=by
 unfold EH at h
 simp only[Ak2,Ak5]at h
 obtain⟨⟨⟨⟨⟨⟨h1,h2⟩,h3⟩,h4⟩,h5⟩,h6⟩,h7⟩:=h
 refine⟨⟨h1,h2⟩,⟨h3,h4⟩,h5,fun hs=>?_,fun d hd=>?_⟩
 ·rw[AlO hs,Ak4,Ak2]at h6;exact CC.1 h6.1
 ·have:=(Ck (d:=default) (f:=fun d=>Nn k d)).1 h7 d hd
  unfold Nn at this
  simp only[Ak2,Ak5]at this
  obtain⟨⟨⟨⟨a1,a2⟩,a3⟩,a4⟩,a5⟩:=this
  have:=CC.1 a1
  exact⟨⟨a2,a3,a4,a5⟩,this⟩
theorem Z3 {ev:Evl}:∀ {l:List D.Dim} {n r k:Int},(∀ d∈l,Aga d)->0<=n->n<r->(FW ev n l).2=0->(FW ev n l).1=k->0<=k/\k<Fu r l
 | [],n,r,k,_,h0,h1,_,hk=>by subst hk;exact⟨h0,h1⟩
 | d::l,n,r,k,hd,h0,h1,h2,hk=>by
  have hD:=hd d (Alb ..)
  rw[Qo]at h2 hk
  cases c1:decide ((ev d.I).2≠0) with
  | true=>rw[c1,Ak4]at h2;exact absurd h2 (Ak9 c1)
  | false =>
   rw[c1,Ak0]at h2 hk
   cases c2:(decide ((ev d.I).1<0)||decide (d.Len<=(ev d.I).1)) with
   | true=>rw[c2,Ak4]at h2;simp at h2
   | false =>
    rw[c2,Ak0]at h2 hk
    simp only[Aln,AlB]at c2
    have hm:=Ae9 (i:=(ev d.I).1) (s:=d.Stride) (n:=d.Len) (by omega) (by omega) hD.l2 hD.s1 hD.s2
    have:=Z3 (r:=r+(d.Len - 1)*d.Stride) (fun x hx=>hd x (Alp _ hx)) (by omega) (by omega) h2 hk
    have hb:Lw d=false:=by
     have:=hD.l1;have:=hD.l2;have:=hD.s1;have:=hD.s2
     unfold Lw;simp;omega
    show 0<=k/\k<Fu r (d::l)
    unfold Fu
    rw[hb,Ak0]
    exact this
structure QP (e:D.Env) (who k:Int):Prop where
 glob:who<0->0<=k/\k<e.S.Globals.length
 own:0<=who->who<e.S.Procs.length/\0<=k/\k<(DP e who).Frame.length
theorem AbR {m:D.Model}{k:Int}{v:D.Var}(h:Aaa m k v):Es v=Fu (v.Slot+1) v.Dims:=by
 have h1:=h.slot;have h2:=h.dims
 unfold Es
 have:(decide (v.Slot<0)||(decide (1073741824<v.Slot)||decide (4<v.Dims.length)))=false:=by simp;omega
 rw[this,Ak0]
theorem SP {e:D.Env}{ev:Evl}{x:D.Expr}{k:Int}(hE:BY e)(hv:x.Op=2->Aaa e.M k x.V)(h:(BC e ev x).2.2=0):QP e (BC e ev x).1 (BC e ev x).2.1:=by
 have hpid:=hE.pid
 unfold BC at h ⊢
 cases c0:decide (x.Op≠2) with
 | true=>rw[c0,Ak4]at h;simp at h
 | false =>
  rw[c0,Ak0]at h
  rw[Ak0]
  have hv:=hv (by simpa using c0)
  have hr:=AbR hv
  cases c1:decide ((Dm e ev x.V).2≠0) with
  | true=>rw[c1,Ak4]at h;exact absurd h (Ak9 c1)
  | false =>
   rw[c1,Ak0]at h
   rw[Ak0]
   cases c2:decide ((FW ev x.V.Slot x.V.Dims).2≠0) with
   | true=>rw[c2,Ak4]at h;exact absurd h (Ak9 c2)
   | false =>
    rw[Ak0]
    have hd:=Z3 (ev:=ev) (l:=x.V.Dims) (n:=x.V.Slot) (r:=x.V.Slot+1) (fun d hd=>(hv.dim d hd).1) hv.slot.1 (by omega) (by simpa using c2) rfl
    rw[← hr]at hd
    show QP e (Dm e ev x.V).1 (FW ev x.V.Slot x.V.Dims).1
    generalize (FW ev x.V.Slot x.V.Dims).1=n at hd
    unfold Dm at c1 ⊢
    cases d1:decide (x.V.Scope=0) with
    | true =>
     rw[d1,Ak4]at c1
     rw[Ak4]
     cases d2:decide ((e.S.Globals.length:Int)<Es x.V) with
     | true=>rw[d2,Ak4]at c1;simp at c1
     | false =>
      have:=Alk d2
      exact⟨fun _=>⟨hd.1,by omega⟩,fun h=>by simp at h⟩
    | false =>
     rw[d1,Ak0]at c1
     rw[Ak0]
     cases d2:decide (x.V.Scope=1) with
     | true =>
      rw[d2,Ak4]at c1
      rw[Ak4]
      cases d3:(decide (e.Pid<0)||decide (((DP e e.Pid).Frame.length:Int)<Es x.V)) with
      | true=>rw[d3,Ak4]at c1;simp at c1
      | false =>
       simp only[Aln,AlB]at d3
       exact(show QP e e.Pid n from⟨fun h=>absurd h d3.1,fun _=>⟨hpid.2,hd.1,by omega⟩⟩)
     | false =>
      rw[d2,Ak0]at c1
      rw[Ak0]
      cases d3:decide ((ev x.V.Who).2≠0) with
      | true=>rw[d3,Ak4]at c1;rw[d3]at c1;exact absurd c1 (by simp)
      | false =>
       rw[d3,Ak0]at c1
       rw[Ak0]
       cases d4:(decide ((ev x.V.Who).1<0)||(decide ((e.S.Procs.length:Int)<=(ev x.V.Who).1)||decide ((DP e (ev x.V.Who).1).Type_≠x.V.Type_))) with
       | true=>rw[d4,Ak4]at c1;simp at c1
       | false =>
        rw[d4,Ak0]at c1
        rw[Ak0]
        simp only[Aln,AlB]at d4
        cases d5:decide (((DP e (ev x.V.Who).1).Frame.length:Int)<Es x.V) with
        | true=>rw[d5,Ak4]at c1;simp at c1
        | false =>
         have:=Alk d5
         exact(show QP e (ev x.V.Who).1 n from⟨fun h=>absurd h d4.1,fun _=>⟨by omega,hd.1,by omega⟩⟩)
theorem OF {m:D.Model}{k:Int}{a t:List Int}(h:Cu m k a t=true):a.length<=8/\t.length=a.length/\∀ x∈a,0<=x/\x<k:=by
 unfold Cu at h
 simp only[Ak2,Ak5]at h
 exact⟨h.1.1.1.2,h.1.1.2,Acn h.1.2⟩
theorem Yp {m:D.Model}{x:Int}(hx:0<=x/\x<m.Exprs.length):Aw m x∈m.Exprs:=Av (d:=default) (by omega)
theorem Af3 {e:D.Env}{x:Int}(hE:BY e)(hx:0<=x/\x<e.M.Exprs.length):Len (Aw e.M x).Args.length:=by
 have:=(hE.wf.Exprs.2 _ (Yp hx)).Args.1
 unfold Len;omega
theorem Zi {e:D.Env}{ev:Evl}{x:Int}(hE:BY e)(hx:0<=x/\x<e.M.Exprs.length)(hok:V8 e.M x (Aw e.M x))(hev:∀ a,0<=a->a<x->EvS e a (ev a)):Ai Tryz.prog 128 [] [.tp (Af e),Aa x] [] (LR (BC e ev (Aw e.M x))):=by
 refine Abk hE hx (hE.wf.Exprs.2 _ (Yp hx)).V (fun ho hs=>?_) (fun ho=>?_) (fun ho d hd=>?_)
 ·have hv:=K8 (hok.var ho)
  have h1:=hv.scope
  exact hev _ (hv.who (by omega)).1 (hv.who (by omega)).2
 ·have hv:=K8 (hok.var ho)
  exact⟨hv.slot.1,hv.slot.2,hv.dims⟩
 ·have hv:=K8 (hok.var ho)
  exact⟨(hv.dim d hd).1,hev _ (hv.dim d hd).2.1 (hv.dim d hd).2.2⟩
theorem AbQ {e:D.Env}{ev:Evl}{x:Int}(hE:BY e)(hop:(e.M.Exprs.getD x.toNat default).Op=2)(hok:V8 e.M x (Aw e.M x))(hsl:Ai Tryz.prog 128 [] [.tp (Af e),Aa x] [] (LR (BC e ev (Aw e.M x)))) :
  ∃ y:Int × Int × Int,Ai Tryz.prog 128 [] [.tp (Af e),Aa x] [] (LR y)/\((y.2.2 != 0)=true->leO [] []/\VV.le (.tup [.sc (.int .i64 0),.sc (.int .i64 y.2.2)]) (vII (Dw e ev (Aw e.M x))))/\((y.2.2 != 0)=false ->
   (decide (y.1<0)=true->(0<=y.2.1/\y.2.1<(e.S.Globals.length:Int))/\leO [] []/\VV.le (.tup [.sc (.int .i64 (e.S.Globals.getD y.2.1.toNat 0)),.sc (.int .i64 0)]) (vII (Dw e ev (Aw e.M x)))) /\
   (decide (y.1<0)=false->(0<=y.1/\y.1<(e.S.Procs.length:Int))/\(0<=y.2.1/\y.2.1<((e.S.Procs.getD y.1.toNat default).Frame.length:Int))/\leO [] []/\VV.le (.tup [.sc (.int .i64 ((e.S.Procs.getD y.1.toNat default).Frame.getD y.2.1.toNat 0)),.sc (.int .i64 0)]) (vII (Dw e ev (Aw e.M x))))):=by
 have hop':(Aw e.M x).Op=2:=hop
 have he:Dw e ev (Aw e.M x)=Zo e ev (Aw e.M x):=by unfold Dw;rw[hop']<;>rfl
 rw[he]
 have hin:=SP (e:=e) (ev:=ev) hE (fun ho=>K8 (hok.var ho))
 refine⟨BC e ev (Aw e.M x),hsl,fun h=>Bo (ct (by simpa using h) rfl),fun h=>⟨fun h1=>?_,fun h1=>?_⟩⟩
 ·have h0:decide ((BC e ev (Aw e.M x)).2.2≠0)=false:=by simpa using h
  exact⟨(hin (by simpa using h0)).glob (Ak9 h1),Bo (cf h0 (ct h1 rfl))⟩
 ·have h0:decide ((BC e ev (Aw e.M x)).2.2≠0)=false:=by simpa using h
  have hi:=hin (by simpa using h0)
  have:=Alk h1
  exact⟨⟨by omega,(hi.own (by omega)).1⟩,(hi.own (by omega)).2,Bo (cf h0 (cf h1 rfl))⟩
theorem Ado {e:D.Env}{ev:Evl}{x:Int}(hop:(e.M.Exprs.getD x.toNat default).Op=36)(h:EvS e (Aw e.M x).A (ev (Aw e.M x).A)) :
  ∃ y:Int × Int,Ai Tryz.prog 94 [] [.tp (Af e),Aa (Aw e.M x).A] [] (vII y)/\((y.2 != 0)=true->leO [] []/\VV.le (.tup [.sc (.int .i64 0),.sc (.int .i64 y.2)]) (vII (Dw e ev (Aw e.M x))))/\((y.2 != 0)=false ->
   ((true&&(bif decide (y.1>=0) then decide (y.1<(e.Able.length:Int)) else false)==true)=true->0<=y.1/\y.1<(e.Able.length:Int)) /\
   ∃ y1:Int × Int,Ai Tryz.prog 132 [] [Ac (bif bif decide (y.1>=0) then decide (y.1<(e.Able.length:Int)) else false then e.Able.getD y.1.toNat false else false)] [] (vII y1)/\leO [] []/\VV.le (vII y1) (vII (Dw e ev (Aw e.M x)))):=by
 have hop':(Aw e.M x).Op=36:=hop
 have he:Dw e ev (Aw e.M x)=Z9 e ev (Aw e.M x):=by unfold Dw;rw[hop']<;>rfl
 rw[he]
 refine⟨_,h,fun h1=>Bo (ct (by simpa using h1) rfl),fun h1=>⟨fun h2=>?_,_,C0,Bo (cf (by simpa using h1) ?_)⟩⟩
 ·simp at h2;omega
 ·simp only[A6,Amu,Bool.and_assoc]
theorem Ae4 {o:Int}(h:1<=o/\o<=39):o=1∨o=2∨o=3∨o=4∨o=5∨o=6∨o=7∨o=8∨o=9∨o=10∨o=11∨o=12∨o=13∨o=14∨o=15∨o=16∨o=17∨o=18∨o=19∨o=20∨o=21∨o=22∨o=23∨o=24∨o=25∨o=26∨o=27∨o=28∨o=29∨o=30∨o=31∨o=32∨o=33∨o=34∨o=35∨o=36∨o=37∨o=38∨o=39:=by omega
set_option maxHeartbeats 4000000 in
theorem Sb {e:D.Env}{ev:Evl}{x:Int}(hE:BY e)(hx:0<=x/\x<e.M.Exprs.length)(hev:∀ a,0<=a->a<x->EvS e a (ev a)):EvS e x (Dw e ev (Aw e.M x)):=by
 have hxn:((x.toNat:Nat):Int)=x:=by omega
 have hok:V8 e.M x (Aw e.M x):=ZV (by have:=hE.expr x.toNat (by omega);rwa [hxn]at this)
 have hsl:=Zi hE hx hok hev
 have hA:1<=Bf (Aw e.M x).Op->EvS e (Aw e.M x).A (ev (Aw e.M x).A):=fun h=>hev _ (hok.a h).1 (hok.a h).2
 have hB:2<=Bf (Aw e.M x).Op->EvS e (Aw e.M x).B (ev (Aw e.M x).B):=fun h=>hev _ (hok.b h).1 (hok.b h).2
 have hC:3<=Bf (Aw e.M x).Op->EvS e (Aw e.M x).C (ev (Aw e.M x).C):=fun h=>hev _ (hok.c h).1 (hok.c h).2
 have c1:=fun b=>OR (c:=CR Tryz.prog tb C5 Dz true Tryz.f94 [] (vII (Dw e ev (Aw e.M x)))) Al Am (by kernel_rfl) (Ac0 _ _ e (Aw e.M x) b)
 have c2:=fun b=>OR (c:=CR Tryz.prog tb C5 Dz true Tryz.f94 [] (vII (Dw e ev (Aw e.M x)))) Al Am (by kernel_rfl) (AcZ _ _ e (Aw e.M x) b)
 refine Ah Al Am Tryz.func94 (by kernel_rfl) rfl (AfC _ _ e x) ⟨hx,?_⟩
 rcases Ae4 (o:=(Aw e.M x).Op) (by have:=hok.op;omega) with ho | ho | ho | ho | ho | ho | ho | ho | ho | ho | ho | ho | ho | ho | ho | ho | ho | ho | ho | ho | ho | ho | ho | ho | ho | ho | ho | ho | ho | ho | ho | ho | ho | ho | ho | ho | ho | ho | ho
 all_goals
  have hop:(e.M.Exprs.getD x.toNat default).Op=_:=ho
  repeat (first
   | refine⟨fun h=>absurd h (by (first | rw[hop] | rw[ho]);decide),fun _=>?_⟩
   | refine⟨fun _=>?_,fun h=>absurd h (by (first | rw[hop] | rw[ho]);decide)⟩
   | refine c1 _ ?_
   | refine c2 _ ?_)
  first
   | exact Bo (by unfold Dw;rw[ho]<;>rfl)
   | exact⟨_,Rp (hA (by rw[ho];decide)) (fun h=>absurd (by omega) h),Bo (by unfold Dw;rw[ho]<;>rfl)⟩
   | exact⟨_,Rp (hA (by rw[ho];decide)) (fun _=>hB (by rw[ho];decide)),Bo (by unfold Dw;rw[ho]<;>rfl)⟩
   | exact⟨_,P9 (hA (by rw[ho];decide)) (hB (by rw[ho];decide)) (fun h=>absurd h (by rw[ho];decide)),Bo (by unfold Dw;rw[ho]<;>rfl)⟩
   | exact⟨_,P9 (hA (by rw[ho];decide)) (hB (by rw[ho];decide)) (fun _=>hC (by rw[ho];decide)),Bo (by unfold Dw;rw[ho]<;>rfl)⟩
   | exact⟨_,Adm hE (hA (by rw[ho];decide)),Bo (by unfold Dw;rw[ho]<;>rfl)⟩
   | exact⟨_,UL (hA (by rw[ho];decide)) (Af3 hE hx),Bo (by unfold Dw;rw[ho]<;>rfl)⟩
   | exact⟨_,C0,Bo (by unfold Dw;rw[ho]<;>rfl)⟩
   | exact⟨_,QZ hE,_,C0,Bo (by unfold Dw;rw[ho]<;>rfl)⟩
   | exact AbQ hE hop hok hsl
   | exact Ado hop (hA (by rw[ho];decide))
   | exact⟨_,Ab2 hE (hA (by rw[ho];decide)) (fun a ha=>hev _ ((OF (hok.poll ho)).2.2 a ha).1 ((OF (hok.poll ho)).2.2 a ha).2) (OF (hok.poll ho)).1 (OF (hok.poll ho)).2.1,Bo (by unfold Dw;rw[ho]<;>rfl)⟩
theorem Lt {e:D.Env}(hE:BY e):∀ (n:Nat) (x:Int),0<=x->x<e.M.Exprs.length->x<n->EvS e x (Sc e n x)
 | 0,x,h0,_,h2=>by omega
 | n+1,x,h0,h1,h2=>Sb hE ⟨h0,h1⟩ fun a ha hlt=>Lt hE n a ha (by omega) (by omega)
theorem Rr {e:D.Env}(hE:BY e){x a:Int}(hx:x<e.M.Exprs.length)(h0:0<=a)(h1:a<x):EvS e a (Fp e a):=Lt hE _ a h0 (by omega) (by omega)
theorem Yq {e:D.Env}(hE:BY e){x:Int}(hx:0<=x/\x<e.M.Exprs.length):EvS e x (Dw e (Fp e) (Aw e.M x)):=Sb hE hx fun _ h0 h1=>Rr hE hx.2 h0 h1
theorem Ek {e:D.Env}(hw:Ay e.M)(hs:A7 e.S)(x:Int):Ai Tryz.prog 93 [] [.agg (Af e),Aa x] [] (Aa (CD e x)):=by
 refine Ah Al Am Tryz.func93 (by kernel_rfl) rfl (VA _ e x) ⟨_,Gr hw hs (fun h=>(GU h).clp),fun h=>C2 (ct (by simpa using h) rfl),fun h=>⟨fun h1=>C2 (cf (by simpa using h) (ct ?_ rfl)),fun h1=>C2 (cf (by simpa using h) (cf ?_ rfl))⟩⟩
 ·simp only[A3,Amu,Amb]at h1;exact h1
 ·simp only[A3,Amu,Amb]at h1;exact h1
theorem IT {e:D.Env}{x:Int}(hw:Ay e.M)(h:CD e x=0):BY e/\0<=x/\x<e.M.Exprs.length:=by
 unfold CD at h
 cases c1:decide (Cf e.M e.S≠0) with
 | true=>rw[c1,Ak4]at h;exact absurd h (Ak9 c1)
 | false =>
  rw[c1,Ak0]at h
  obtain⟨h1,h2⟩:=Lz (show Cf e.M e.S=0 by simpa using c1)
  cases c2:(decide (e.Pid < -1)||(decide ((e.S.Procs.length:Int)<=e.Pid)||(decide (x<0)||decide ((e.M.Exprs.length:Int)<=x)))) with
  | true=>rw[c2,Ak4]at h;simp at h
  | false =>
   simp only[Aln,AlB]at c2
   exact⟨⟨h2,h1,hw,by omega,by omega⟩,by omega,by omega⟩
theorem GZ {e:D.Env}(hw:Ay e.M)(hs:A7 e.S)(x:Int):Ai Tryz.prog 61 [] [.agg (Af e),Aa x] [] (vII (AX e x)):=by
 refine Ah Al Am Tryz.func61 (by kernel_rfl) rfl (Ac5 _ _ e x) ⟨_,Ek hw hs x,fun h=>Bo (ct (by simpa using h) rfl),fun h=>?_⟩
 obtain⟨hE,hx⟩:=IT (x:=x) hw (by simpa using h)
 exact⟨_,Yq hE hx,Bo (cf (by simpa using h) rfl)⟩
theorem IU {e:D.Env}(hw:Ay e.M)(hs:A7 e.S)(x:Int):Ai Tryz.prog 183 [] [.agg (Af e),Aa x] [] (vII (AC e x)):=by
 refine Ah Al Am Tryz.func183 (by kernel_rfl) rfl (Ac6 _ _ e x) ⟨_,Ek hw hs x,fun h=>Bo (ct (by simpa using h) rfl),fun h=>?_⟩
 obtain⟨hE,hx⟩:=IT (x:=x) hw (by simpa using h)
 exact⟨_,K4 (Lt hE _ x hx.1 hx.2 hx.2),Bo (cf (by simpa using h) rfl)⟩
def B33 (n:Int):Prop:=-2147483648<=n/\n<=4294967295
def Q33 (t:Bool)(p:Int × Int):Prop:=p.2=0->B33 p.1/\(t=true->p.1=0∨p.1=1)
theorem EW {t b:Bool}:Q33 t (DU b):=by cases b<;>simp[Q33,B33,DU]
theorem Zq {t:Bool}{a c:Int}(h:c≠0):Q33 t (a,c):=fun h'=>absurd h' h
theorem Jz {t:Bool}{a c:Int}(h:decide (c≠0)=true):Q33 t (a,c):=Zq (Ak9 h)
theorem EX {t c:Bool}{p q:Int × Int}(h1:c=true->Q33 t p)(h2:c=false->Q33 t q):Q33 t (bif c then p else q):=by
 cases c
 ·exact h2 rfl
 ·exact h1 rfl
theorem FS {t:Bool}{c:Prop}[Decidable c]{p q:Int × Int}(h1:c->Q33 t p)(h2:¬ c->Q33 t q):Q33 t (if c then p else q):=by
 split
 ·rename_i h;exact h1 h
 ·rename_i h;exact h2 h
theorem NT {t:Bool}{a c:Int}(h:B33 a)(ht:t=false):Q33 t (a,c):=fun _=>⟨h,fun h=>by rw[ht]at h;cases h⟩
theorem SW {t:Bool}{p:Int × Int}(h:Q33 t p):Q33 false p:=fun h0=>⟨(h h0).1,fun h=>by cases h⟩
theorem Vq {t:D.Type}{v:Int}(h:DD t v=true):B33 v:=by
 unfold DD Hx at h
 simp only[Ak2,Ak5]at h
 obtain⟨⟨h1,h2,h3⟩,h4⟩:=h
 have hp:=AeU t.Bits h1 h2
 unfold B33
 cases hs:t.Signed with
 | false=>rw[hs]at h4;simp at h4;omega
 | true =>
  rw[hs]at h3 h4
  simp at h3 h4
  rcases h3 with h3 | h3
  ·rw[h3]at h4;simp at h4;omega
  ·rw[h3]at h4;simp at h4;omega
theorem Pm {t:List D.Type}{l:List Int}{k:Nat}(h:Bx t l=true)(hk:k<l.length):B33 (l.getD k 0):=by
 unfold Bx at h
 simp only[Ak2,Ak5]at h
 exact Vq (Bz.1 h.2 k hk)
theorem Tb {b:Bool}:Ih b=0∨Ih b=1:=by cases b<;>simp[Ih]
def AhW (n:Int):Prop:=-2147483648<=n/\n<=2147483647
theorem C1 {c:Prop}[Decidable c]{a b:Int}(h1:AhW a)(h2:AhW b):AhW (if c then a else b):=by
 split
 ·exact h1
 ·exact h2
theorem Aip (op a b:Int):-2147483648<=Er op a b/\Er op a b<=2147483647:=by
 have ho:∀ b:Bool,-2147483648<=Ih b/\Ih b<=2147483647:=fun b=>by rcases Tb (b:=b) with h | h<;>rw[h]<;>decide
 have hz:(-2147483648:Int)<=0/\(0:Int)<=2147483647:=by decide
 show AhW (Er op a b)
 unfold Er
 exact C1 (Br _) (C1 (C1 hz (Br _)) (C1 (C1 hz (YZ _ _ (Br _).1 (Br _).2)) (C1 (Br _) (C1 (Br _) (C1 (Ko _ _ (Br _)) (C1 (Ko _ _ (Br _)) (C1 (ho _) (C1 (ho _) (C1 (ho _) (C1 (ho _) (C1 (ho _) (C1 (ho _) (C1 (EO .and (.inl rfl) _ _) (C1 (EO .xor (.inr (.inr rfl)) _ _) (C1 (EO .or (.inr (.inl rfl)) _ _) hz)))))))))))))))
theorem AaV {op a b:Int}(h:13<=op/\op<=18):Er op a b=0∨Er op a b=1:=by
 obtain⟨h1,h2⟩:=h
 have:op=13∨op=14∨op=15∨op=16∨op=17∨op=18:=by omega
 rcases this with rfl | rfl | rfl | rfl | rfl | rfl<;>exact Tb
theorem Ag6 (op a:Int):-2147483648<=M7 op a/\M7 op a<=2147483647:=by
 have hw:=Br a
 unfold M7
 split
 ·exact Br _
 split
 ·rcases Tb (b:=wrap32 a==0) with h | h<;>rw[h]<;>decide
 split
 ·omega
 ·decide
def Kd (op:Int):Bool:=decide (13<=op/\op<=18)||(decide (op=4)||(decide (op=22)||(decide (op=23)||(decide (26<=op/\op<=30)||(decide (op=34)||(decide (op=35)||(decide (op=36)||decide (op=38))))))))
section
variable {e : D.Env} {ev:Evl}
theorem AhP {op a b:Int}:B33 (Er op a b):=by have:=Aip op a b;unfold B33;omega
theorem AhQ {op a:Int}:B33 (M7 op a):=by have:=Ag6 op a;unfold B33;omega
theorem Ai0 {x:D.Expr}{t:Bool}(ht:t=true->x.Op=4∨(13<=x.Op/\x.Op<=18)):Q33 t (Rq ev x):=by
 unfold Rq
 refine EX Jz fun _=>EX (fun h _=>⟨AhQ,fun h'=>?_⟩) fun h=>EX Jz fun _=>fun _=>⟨AhP,fun h'=>?_⟩
 ·rcases ht h' with h4 | h4
  ·show M7 x.Op _=0∨M7 x.Op _=1
   rw[h4];exact Tb
  ·simp at h;omega
 ·rcases ht h' with h4 | h4
  ·rw[h4]at h;simp at h
  ·exact AaV h4
theorem AgX {x:D.Expr}{t:Bool}(ht:t=true->x.Op≠24)(hB:Q33 false (ev x.B))(hC:x.Op=24->Q33 false (ev x.C)):Q33 t (Nc ev x):=by
 unfold Nc
 refine EX Jz fun _=>EX (fun h=>?_) fun h=>EX (fun _=>EW) fun _=>EX Jz fun _=>EW
 have h24:=Ak9 h
 cases t with
 | true=>exact absurd h24 (ht rfl)
 | false=>exact EX (fun _=>hB) fun _=>hC h24
theorem AfM (hE:BY e)(n:Int):(Cl e n).Queue.length<=16:=by
 unfold Cl
 by_cases h:(n - 1).toNat<e.S.Chans.length
 ·exact(hE.fit.q _ (Av h)).1
 ·rw[List.getD,Amj (show e.S.Chans.length<=(n - 1).toNat by omega)];exact Alc _
theorem Ai3 {x:D.Expr}{t:Bool}(hE:BY e)(ht:t=true->x.Op≠25):Q33 t (Si e ev x):=by
 have hl:=AfM hE (DF e ev x.A).1
 unfold Si
 refine EX Jz fun _=>?_
 unfold AjD
 refine FS (fun h=>?_) fun _=>FS (fun _=>EW) fun _=>FS (fun _=>EW) fun _=>FS (fun _=>EW) fun _=>EW
 refine NT (by unfold B33;omega) ?_
 cases t with
 | true=>exact absurd h (ht rfl)
 | false=>rfl
theorem Ai2 {x:D.Expr}{t:Bool}:Q33 t (RJ e ev x):=by
 unfold RJ
 exact EX Jz fun _=>EX (fun _=>Zq (by decide)) fun _=>EX Jz fun _=>EW
theorem Ai4 {x:D.Expr}{t:Bool}:Q33 t (Z9 e ev x):=by
 unfold Z9
 exact EX Jz fun _=>EW
theorem AeM {x:D.Expr}{t:Bool}(hE:BY e)(ht:t=true->x.Op≠37):Q33 t (Kq e ev x):=by
 unfold Kq
 refine EX Jz fun _=>EX (fun _=>Zq (by decide)) fun h2=>EX (fun h=>?_) fun _=>EW
 simp only[Aln,AlB]at h2
 have hp:=Ey (hE.proc (p:=DP e (ev x.A).1) (Av (d:=default) (show(ev x.A).1.toNat<e.S.Procs.length by omega)))
 have hl:=(GU hE.may).locs _ hp.1.1 hp.1.2
 have hloc:=hp.2.1
 refine NT (by unfold B33;omega) ?_
 cases t with
 | true=>exact absurd (Ak9 h) (ht rfl)
 | false=>rfl
theorem Ai1 {x:D.Expr}{k:Int}(hE:BY e)(hv:x.Op=2->Aaa e.M k x.V):Q33 false (Zo e ev x):=by
 unfold Zo
 refine EX Jz fun h=>?_
 have hs:=SP hE hv (by simpa using h)
 refine EX (fun h1=>?_) fun h1=>?_
 ·have:=hs.glob (Ak9 h1)
  exact NT (Pm hE.globals.2 (by omega)) rfl
 ·have h0:0<=(BC e ev x).1:=by have:=Alk h1;omega
  have:=hs.own h0
  have hp:=Ey (hE.proc (p:=DP e (BC e ev x).1) (Av (d:=default) (show(BC e ev x).1.toNat<e.S.Procs.length by omega)))
  exact NT (Pm hp.2.2.2.1 (by omega)) rfl
theorem VD {x:D.Expr}{k:Int}(hE:BY e)(hx:V8 e.M k x)(hB:2<=Bf x.Op->Q33 false (ev x.B))(hC:3<=Bf x.Op->Q33 false (ev x.C))(hl:0<=e.S.Last/\e.S.Last<16):Q33 (Kd x.Op) (Dw e ev x):=by
 have hpid:=hE.pid
 have hpl:=hE.fit.p
 have tt:∀ {o:Int},Kd o=true->(13<=o/\o<=18)∨o=4∨o=22∨o=23∨(26<=o/\o<=30)∨o=34∨o=35∨o=36∨o=38:=fun h=>by
  simpa only[Kd,Amd,Ak5] using h
 unfold Dw
 refine FS (fun h=>NT (Vq (hx.num h)) (by rw[h]<;>rfl)) fun n1=>FS (fun h=>?_) fun n2=>FS (fun h=>?_) fun n3=>FS (fun h=>?_) fun n4=>FS (fun _=>Ai2) fun n5 =>
  FS (fun h=>NT (by unfold B33;omega) (by rw[h]<;>rfl)) fun n6=>FS (fun h=>NT (by unfold B33;omega) (by rw[h];rfl)) fun n7=>FS (fun h=>NT (by unfold B33;omega) (by rw[h];rfl)) fun n8=>FS (fun _=>EW) fun n9=>FS (fun _=>EW) fun n10=>FS (fun _=>Ai4) fun n11=>FS (fun h=>?_) fun n12=>FS (fun _=>Zq (by decide)) fun n13=>?_
 ·rw[show Kd x.Op=false by rw[h]<;>rfl]
  exact Ai1 hE fun ho=>K8 (hx.var ho)
 ·refine AgX (fun ht h'=>by rw[h']at ht;cases ht) (hB ?_) fun h24=>hC (by rw[h24];decide)
  rcases h with h | h | h<;>rw[h]<;>decide
 ·exact Ai3 hE fun ht h'=>by rw[h']at ht;cases ht
 ·exact AeM hE fun ht h'=>by rw[h']at ht;cases ht
 ·refine Ai0 fun ht=>?_
  have:=tt ht
  omega
end
theorem BY.last {e:D.Env}(h:BY e):0<=e.S.Last/\e.S.Last<16:=by
 have h:=h.fits
 unfold DG KT at h
 simp only[Ak2,Ak5]at h
 exact⟨h.1.1.1.1.1.1.2,h.1.1.1.1.1.2⟩
theorem KD {e:D.Env}(hE:BY e):∀ (n:Nat) (x:Int),0<=x->x<e.M.Exprs.length->x<n->Q33 (Kd (Aw e.M x).Op) (Sc e n x)
 | 0,x,h0,_,h2=>by omega
 | n+1,x,h0,h1,h2=>by
  have hxn:((x.toNat:Nat):Int)=x:=by omega
  have hok:V8 e.M x (Aw e.M x):=ZV (by have:=hE.expr x.toNat (by omega);rwa [hxn]at this)
  exact VD hE hok (fun h=>SW (KD hE n _ (hok.b h).1 (by have:=hok.b h;omega) (by have:=hok.b h;omega))) (fun h=>SW (KD hE n _ (hok.c h).1 (by have:=hok.c h;omega) (by have:=hok.c h;omega))) hE.last
theorem AcY {e:D.Env}(hw:Ay e.M)(x:Int):Q33 (Kd (Aw e.M x).Op) (AX e x):=by
 unfold AX
 refine EX Jz fun h=>?_
 obtain⟨hE,h0,h1⟩:=IT (x:=x) hw (by simpa using h)
 have hxn:((x.toNat:Nat):Int)=x:=by omega
 have hok:V8 e.M x (Aw e.M x):=ZV (by have:=hE.expr x.toNat (by omega);rwa [hxn]at this)
 exact VD hE hok (fun h=>SW (KD hE _ _ (hok.b h).1 (by have:=hok.b h;omega) (by have:=hok.b h;omega))) (fun h=>SW (KD hE _ _ (hok.c h).1 (by have:=hok.c h;omega) (by have:=hok.c h;omega))) hE.last
def IR (t:D.Type)(v:Int):Int:=Ej t.Bits t.Signed v
def setG (m:D.Model)(s:D.State)(k v:Int):D.State:={ s with Globals:=s.Globals.set k.toNat (IR (m.Globals.getD k.toNat default) v) }
def Aen (m:D.Model)(p:D.Process)(k v:Int):D.Process:={ p with Frame:=p.Frame.set k.toNat (IR ((A8 m p.Type_).Frame.getD k.toNat default) v) }
def setO (m:D.Model)(s:D.State)(who k v:Int):D.State:={ s with Procs:=s.Procs.set who.toNat (Aen m (s.Procs.getD who.toNat default) k v) }
def Oa (m:D.Model)(s:D.State)(who k v:Int):D.State:=bif decide (who<0) then setG m s k v else setO m s who k v
def AW (e:D.Env)(x v:Int):D.State × Int :=
 bif decide (CD e x≠0) then(default,CD e x)
 else bif decide ((BC e (Fp e) (Aw e.M x)).2.2≠0) then(default,(BC e (Fp e) (Aw e.M x)).2.2)
 else(Oa e.M e.S (BC e (Fp e) (Aw e.M x)).1 (BC e (Fp e) (Aw e.M x)).2.1 v,0)
theorem FN {α:Type}{l:List α}{i:Nat}{a x:α}(h:x∈l.set i a):x∈l∨x=a:=List.mem_or_eq_of_mem_set h
theorem Fit.setG {s:D.State}(h:Fit s)(m:D.Model)(k v:Int):Fit (setG m s k v):=⟨by show(List.set _ _ _).length<=_;rw[AlT];exact h.g,h.c,h.q,h.p,h.f⟩
theorem Fit.setO {s:D.State}(h:Fit s)(m:D.Model)(who k v:Int)(hw:who.toNat<s.Procs.length):Fit (setO m s who k v):=by
 refine⟨h.g,h.c,h.q,by show(List.set _ _ _).length<=_;rw[AlT];exact h.p,fun p hp=>?_⟩
 rcases FN hp with hp | rfl
 ·exact h.f p hp
 ·show(List.set _ _ _).length<=_
  rw[AlT]
  exact h.f _ (Av (d:=default) hw)
theorem N1 : Fit (default:D.State):=⟨by decide,by decide,fun c hc=>(by cases hc),by decide,fun p hp=>(by cases hp)⟩
section
variable {e : D.Env} {x:Int}
theorem AfB (hE:BY e)(h0:0<=x)(h1:x<e.M.Exprs.length):V8 e.M x (Aw e.M x):=by
 have hxn:((x.toNat:Nat):Int)=x:=by omega
 exact ZV (by have:=hE.expr x.toNat (by omega);rwa [hxn]at this)
theorem Kl (hE:BY e)(h0:0<=x)(h1:x<e.M.Exprs.length){ev:Evl}(h:(BC e ev (Aw e.M x)).2.2=0):QP e (BC e ev (Aw e.M x)).1 (BC e ev (Aw e.M x)).2.1 :=
 SP hE (fun ho=>K8 ((AfB hE h0 h1).var ho)) h
theorem W5 (hw:Ay e.M)(v:Int):Fit (AW e x v).1:=by
 unfold AW
 cases c:decide (CD e x≠0) with
 | true=>exact N1
 | false =>
  obtain⟨hE,h0,h1⟩:=IT (x:=x) hw (by simpa using c)
  rw[Ak0]
  cases c2:decide ((BC e (Fp e) (Aw e.M x)).2.2≠0) with
  | true=>exact N1
  | false =>
   rw[Ak0]
   have hs:=Kl hE h0 h1 (ev:=Fp e) (by simpa using c2)
   show Fit (Oa _ _ _ _ _)
   unfold Oa
   cases c3:decide ((BC e (Fp e) (Aw e.M x)).1<0) with
   | true=>exact hE.fit.setG _ _ _
   | false =>
    have hn:0<=(BC e (Fp e) (Aw e.M x)).1:=by have:=Alk c3;omega
    exact hE.fit.setO _ _ _ _ (by have:=hs.own hn;omega)
end
abbrev P0 : AF:=⟨fun _=>False,fun _=>False,0,[]⟩
theorem V.keep {w w':World}{x:VV}{v:Value}(h:V w P0 none x v)(hb:Below w.heap.size w w'):V w' P0 none x v :=
 h.mono hb.size (fun k hk _=>⟨hb.block k hk,fun h=>h⟩) (fun k hk _=>⟨hb.block k hk,fun h=>h⟩) trivial
theorem Ai.at {P:Program}{f:FuncId}{xs:List VV}{r:VV}(h:Ai P f [] xs [] r){w0 w:World}{vs:Array Value}(hL:Cb w0)(hB:∀ k,k∈DX->k<w0.heap.size)(hb:Below w0.heap.size w0 w)(hs:CS w P0 none xs vs) :
  Calls P f vs w fun e w'=>∃ v,e=.returned v/\Below w.heap.size w w'/\V w' P0 none r v :=
 h.start (hL.congr fun k hk=>hb.block k (hB k hk)) (fun k hk=>Alr (hB k hk) hb.size) hs
theorem PL {w:World}{E:AF}{x y:VV}{u v:Value}(h1:V w E none x u)(h2:V w E none y v):CS w E none [x,y] #[u,v]:=by
 refine⟨rfl,fun j z hz=>?_⟩
 match j,hz with
 | 0,hz=>simp only[Ala,Ak1]at hz;subst hz;exact h1
 | 1,hz=>simp only[AlN,Ala,Ak1]at hz;subst hz;exact h2
 | j+2,hz=>simp at hz
theorem Po {w:World}{E:AF}{m:Option Phi}{a b c:Int}{v:Value}(h:V w E m (LR (a,b,c)) v):v=.tuple #[.int .i64 a,.int .i64 b,.int .i64 c]:=by
 cases h with
 | @tup _ _ _ vs h1 h2 =>
  obtain⟨l⟩:=vs
  match l,h1,h2 with
  | [u0,u1,u2],_,h2 =>
   have e0:u0=.int .i64 a:=(h2 0 _ rfl).sc_inv
   have e1:u1=.int .i64 b:=(h2 1 _ rfl).sc_inv
   have e2:u2=.int .i64 c:=(h2 2 _ rfl).sc_inv
   rw[e0,e1,e2]
theorem Aje {l:List Value}(h:l.length=16):∃ a0 a1 a2 a3 a4 a5 a6 a7 a8 a9 a10 a11 a12 a13 a14 a15,l=[a0,a1,a2,a3,a4,a5,a6,a7,a8,a9,a10,a11,a12,a13,a14,a15]:=by
 match l,h with
 | [a0,a1,a2,a3,a4,a5,a6,a7,a8,a9,a10,a11,a12,a13,a14,a15],_=>exact⟨_,_,_,_,_,_,_,_,_,_,_,_,_,_,_,_,rfl⟩
def AtT (w:World)(ts:List D.Type)(v:Value):Prop :=
 AtL w ts.length (fun b off i=>w.cell? ⟨b,off+i*2,none⟩=some (.int .i64 (ts.getD i default).Bits)/\w.cell? ⟨b,off+i*2+1,none⟩=some (.bool (ts.getD i default).Signed)) v
def AtF (w:World)(ps:List D.Proc)(v:Value):Prop :=
 AtL w ps.length (fun b off i=>∃ u,w.cell? ⟨b,off+i*10+2,none⟩=some u/\AtT w (ps.getD i default).Frame u) v
section
variable {w w':World} {E:AF} {m:Option Phi} {v:Value} {fz:Bool}
theorem AkK {ts:List D.Type}(h:V w E m (AJ fz ts) v):AtT w ts v:=by
 obtain⟨ao,cap,rfl,h1,h2,h3⟩:=V.sl_inv h
 refine⟨ao,cap,rfl,h1,h2,fun hp=>?_⟩
 obtain⟨b,off,rfl,hb,_,_,u,hc,hv⟩:=h3 hp
 refine⟨b,off,rfl,hb,fun i hi=>⟨?_,?_⟩⟩
 ·have c1:=hc i 0 _ hi rfl
  have c2:=(hv i 0 _ hi rfl).sc_inv
  rw[c2]at c1
  simpa using c1
 ·have c1:=hc i 1 _ hi rfl
  have c2:=(hv i 1 _ hi rfl).sc_inv
  rw[c2]at c1
  simpa using c1
theorem AkY {ps:List D.Proc}(h:V w E m (A4 fz ps) v):AtF w ps v:=by
 obtain⟨ao,cap,rfl,h1,h2,h3⟩:=V.sl_inv h
 refine⟨ao,cap,rfl,h1,h2,fun hp=>?_⟩
 obtain⟨b,off,rfl,hb,_,_,u,hc,hv⟩:=h3 hp
 exact⟨b,off,rfl,hb,fun i hi=>⟨u i 2,hc i 2 _ hi rfl,AkK (hv i 2 _ hi rfl)⟩⟩
theorem AtT.below {ts:List D.Type}(h:AtT w ts v)(hb:Below w.heap.size w w'):AtT w' ts v :=
 AtL.map h hb.size fun b off i hl _ hc=>⟨by rw[hb.cell (p:=⟨b,off+i*2,none⟩) hl];exact hc.1,by rw[hb.cell (p:=⟨b,off+i*2+1,none⟩) hl];exact hc.2⟩
theorem AtF.below {ps:List D.Proc}(h:AtF w ps v)(hb:Below w.heap.size w w'):AtF w' ps v :=
 AtL.map h hb.size fun b off i hl _ ⟨u,h1,h2⟩=>⟨u,by rw[hb.cell (p:=⟨b,off+i*10+2,none⟩) hl];exact h1,h2.below hb⟩
theorem AtQ.below {q:List (List Int)}(h:AtQ w q v)(hb:Below w.heap.size w w'):AtQ w' q v :=
 AtL.map h hb.size fun b off i hl _ ⟨u,h1,h2⟩=>⟨u,by rw[hb.cell (p:=⟨b,off+i,none⟩) hl];exact h1,h2.below hb⟩
theorem AtC.below {cs:List D.Chan}(h:AtC w cs v)(hb:Below w.heap.size w w'):AtC w' cs v :=
 AtL.map h hb.size fun b off i hl _ ⟨u,h0,h1,h2⟩=>⟨u,by rw[hb.cell (p:=⟨b,off+i*2,none⟩) hl];exact h0,by rw[hb.cell (p:=⟨b,off+i*2+1,none⟩) hl];exact h1,h2.below hb⟩
theorem AtP.below {ps:List D.Process}(h:AtP w ps v)(hb:Below w.heap.size w w'):AtP w' ps v :=
 AtL.map h hb.size fun b off i hl _ ⟨u,h0,h1,h2,h3,h4⟩=>⟨u,by rw[hb.cell (p:=⟨b,off+i*4,none⟩) hl];exact h0,by rw[hb.cell (p:=⟨b,off+i*4+1,none⟩) hl];exact h1,
  by rw[hb.cell (p:=⟨b,off+i*4+2,none⟩) hl];exact h2,by rw[hb.cell (p:=⟨b,off+i*4+3,none⟩) hl];exact h3,h4.below hb⟩
end
structure QQ (w:World) (e:D.Env) (c0 c1 c2 c3 c4 c6 c7 c8 c9 c15:Value):Prop where
 t:AtT w e.M.Globals c0
 f:AtF w e.M.Procs c4
 g:AtI w e.S.Globals c7
 c:AtC w e.S.Chans c8
 p:AtP w e.S.Procs c9
abbrev Lu (e:D.Env)(c0 c1 c2 c3 c4 c6 c7 c8 c9 c15:Value):Array Value :=
 #[c0,c1,c2,c3,c4,.int .i64 e.M.Claim,c6,c7,c8,c9,.int .i64 e.S.Last,.int .i64 e.S.Alone,.int .i64 e.S.Claim,.int .i64 e.Pid,.bool e.Timeout,c15]
theorem AhG {w:World}{E:AF}{m:Option Phi}{e:D.Env}{v:Value}(h:V w E m (.agg (Af e)) v) :
  ∃ c0 c1 c2 c3 c4 c6 c7 c8 c9 c15,v=.agg (Lu e c0 c1 c2 c3 c4 c6 c7 c8 c9 c15)/\QQ w e c0 c1 c2 c3 c4 c6 c7 c8 c9 c15:=by
 obtain⟨vs,rfl,h1,h2⟩:=h.agg_inv
 obtain⟨l⟩:=vs
 obtain⟨a0,a1,a2,a3,a4,a5,a6,a7,a8,a9,a10,a11,a12,a13,a14,a15,rfl⟩:=Aje (l:=l) h1
 have e5:a5=.int .i64 e.M.Claim:=(h2 5 _ rfl).sc_inv
 have e10:a10=.int .i64 e.S.Last:=(h2 10 _ rfl).sc_inv
 have e11:a11=.int .i64 e.S.Alone:=(h2 11 _ rfl).sc_inv
 have e12:a12=.int .i64 e.S.Claim:=(h2 12 _ rfl).sc_inv
 have e13:a13=.int .i64 e.Pid:=(h2 13 _ rfl).sc_inv
 have e14:a14=.bool e.Timeout:=(h2 14 _ rfl).sc_inv
 subst e5 e10 e11 e12 e13 e14
 exact⟨_,_,_,_,_,_,_,_,_,_,rfl,AkK (h2 0 _ rfl),AkY (h2 4 _ rfl),AhR (h2 7 _ rfl),AkZ (h2 8 _ rfl),AkX (h2 9 _ rfl)⟩
theorem Yv {w:World}{b:Nat}{vs:Array Value}{t:TypeId}{cs:List VV}(hb:w.heap[b]?=some (.cells vs t (0,0)))(h:V w P0 none (.agg cs) (.agg vs)):V w P0 none (.tp cs) (.pointer (some ⟨b,0,none⟩)):=by
 obtain⟨vs',e,h1,h2⟩:=h.agg_inv
 obtain rfl:vs=vs':=by simpa using e
 refine .tp (fun j=>vs.getD j undef) (BJ hb) (fun h=>h) (fun j x hx=>?_) fun j x hx=>h2 j x hx
 have hj:j<vs.size:=by rw[h1];exact(Ak3.1 hx).1
 rw[AlC]
 exact Aj hb (by simp[Array.getD,hj])
theorem MZ {w:World}{b:Nat}{u0 u1 u2 u3 u4 u5:Value}{t:TypeId}(h:w.heap[b]?=some (.cells #[u0,u1,u2,u3,u4,u5] t (0,0))) :
  w.cell? ⟨b,0,none⟩=some u0/\w.cell? ⟨b,1,none⟩=some u1/\w.cell? ⟨b,2,none⟩=some u2/\w.cell? ⟨b,3,none⟩=some u3/\w.cell? ⟨b,4,none⟩=some u4/\w.cell? ⟨b,5,none⟩=some u5 /\
  w.frozen? ⟨b,0,none⟩=false/\w.frozen? ⟨b,1,none⟩=false/\w.frozen? ⟨b,2,none⟩=false/\w.frozen? ⟨b,3,none⟩=false/\w.frozen? ⟨b,4,none⟩=false/\w.frozen? ⟨b,5,none⟩=false :=
 ⟨Aj h rfl,Aj h rfl,Aj h rfl,Aj h rfl,Aj h rfl,Aj h rfl,Ax h,Ax h,Ax h,Ax h,Ax h,Ax h⟩
theorem IA (w:World)(A Z:Obj):((w.alloc A).alloc Z).heap[w.heap.size]?=some A/\((w.alloc A).alloc Z).heap[w.heap.size+1]?=some Z/\((w.alloc A).alloc Z).heap.size=w.heap.size+1+1/\Below w.heap.size w ((w.alloc A).alloc Z):=by
 refine⟨?_,?_,by simp,((Below.refl _ w).alloc (Ak6 _) _).alloc (by simp) _⟩
 ·rw[Below.heap_alloc _ _ _ (by simp)];exact heap_alloc_new w A
 ·have:=heap_alloc_new (w.alloc A) Z;simpa using this
def E9 (w:World)(n0:Nat)(s:D.State)(vs:Array Value):Prop :=
 ∃ vg vc vp qs fs,vs=#[vg,vc,vp,.int .i64 s.Last,.int .i64 s.Alone,.int .i64 s.Claim]/\I4 w n0 vg s.Globals/\Hf w n0 vc qs s.Chans/\FL w n0 vp fs s.Procs
theorem E9.zero (w:World)(n0:Nat):E9 w n0 default #[.slice none 0 0,.slice none 0 0,.slice none 0 0,.int .i64 0,.int .i64 0,.int .i64 0] :=
 ⟨_,_,_,[],[],rfl,World.ownsRow_nil _ _ _ _,Hf.nil _ _,FL.nil _ _⟩
theorem E9.base {w:World}{n0 n1:Nat}{s:D.State}{vs:Array Value}(h:E9 w n0 s vs)(hb:n1<=n0):E9 w n1 s vs:=by
 obtain⟨vg,vc,vp,qs,fs,rfl,h1,h2,h3⟩:=h
 exact⟨vg,vc,vp,qs,fs,rfl,CH h1 hb,⟨CH h2.row hb,h2.len,fun i u c a b=>let ⟨vs,hq⟩:=h2.each i u c a b;⟨vs,hq.base hb⟩⟩,⟨CH h3.row hb,h3.len,fun i u p a b=>CH (h3.each i u p a b) hb,h3.apart⟩⟩
theorem E9.aside {w w':World}{b B:Nat}{s:D.State}{vs:Array Value}(h:E9 w B s vs)(hb:b<B)(hT:Ca w w' (fun k=>k=b)):E9 w' B s vs:=by
 obtain⟨vg,vc,vp,qs,fs,rfl,h1,h2,h3⟩:=h
 have hk:∀ k,B<=k->k<w.heap.size->w'.heap[k]?=w.heap[k]?:=fun k h0 h1=>hT.block k h1 fun e=>by have e:k=b:=e;omega
 exact⟨vg,vc,vp,qs,fs,rfl,B4 (ts:=[D2]) h1 (Cd.of hk) (by simp),h2.kept (ts:=[D1,GS,D2]) (Cd.of hk) (by simp) (by simp) (by simp),h3.kept (ts:=[Eo,D2]) (Cd.of hk) (by simp) (by simp)⟩
def LI (w:World)(e:D.Env)(x v:Int)(r:Ending)(w':World):Prop :=
 ∃ vs,r=.returned (.tuple #[.agg vs,.int .i64 (AW e x v).2])/\E9 w' w.heap.size (AW e x v).1 vs/\Below w.heap.size w w'
theorem PI {e:D.Env}{x:Int}(hw:Ay e.M)(h:CD e x=0):Ai Tryz.prog 128 [] [.tp (Af e),Aa x] [] (LR (BC e (Fp e) (Aw e.M x))):=by
 obtain⟨hE,hx⟩:=IT hw h
 exact Zi hE hx (AfB hE hx.1 hx.2) fun a h0 h1=>Rr hE hx.2 h0 h1
abbrev AhH : TypeId:=124
set_option maxRecDepth 100000 in
set_option maxHeartbeats 4000000 in
theorem Aa7 {w:World}{e:D.Env}{x v:Int}{c0 c1 c2 c3 c4 c6 c7 c8 c9 c15:Value}(hw:Ay e.M)(hs:A7 e.S)(hL:Cb w)(hB:∀ k,k∈DX->k<w.heap.size)
  (hV:V w P0 none (.agg (Af e)) (.agg (Lu e c0 c1 c2 c3 c4 c6 c7 c8 c9 c15))) (hbad:CD e x≠0) :
  Calls Tryz.prog 161 #[.agg (Lu e c0 c1 c2 c3 c4 c6 c7 c8 c9 c15),.int .i64 x,.int .i64 v] w (LI w e x v):=by
 have HQ:Hid (AW e x v=(default,CD e x)):=by unfold Hid AW;rw[AlO hbad,Ak4]
 have HC:=Lib.hid (Ek hw hs x)
 have hne:(CD e x==0)=false:=by simpa using hbad
 clear hbad
 unfold Lu at hV ⊢
 go_enter Tryz.func161,Tryz.ntmps161
 obtain⟨B0,B1,B2,BB⟩:=IA w (.cells #[c0,c1,c2,c3,c4,.int .i64 e.M.Claim,c6,c7,c8,c9,.int .i64 e.S.Last,.int .i64 e.S.Alone,.int .i64 e.S.Claim,.int .i64 e.Pid,.bool e.Timeout,c15] AhH (0,0)) (.cells #[.slice none 0 0,.slice none 0 0,.slice none 0 0,.int .i64 0,.int .i64 0,.int .i64 0] BG (0,0))
 go_wp2_with (go_at_call 93;refine(HC.out.at hL hB BB (PL (hV.keep BB) .sc)).mono ?_;rintro r w1 ⟨u,rfl,hb1,hu⟩;obtain rfl:=hu.sc_inv;have Z1:=(hb1.block _ (by omega)).trans B1;obtain⟨d0,d1,d2,d3,d4,d5,g0,g1,g2,g3,g4,g5⟩:=MZ Z1)
 have hres:=MJ Z1 (.slice none 0 0) (.slice none 0 0) (.slice none 0 0) (.int .i64 0) (.int .i64 0) (.int .i64 0)
 have hT:=H6 (w:=w1) (b:=w.heap.size+1) (.slice none 0 0) (.slice none 0 0) (.slice none 0 0) (.int .i64 0) (.int .i64 0) (.int .i64 0)
 refine DS rfl rfl hres Tryz.underlying35 rfl (by kernel_rfl) rfl ?_
 generalize (((((((w1.setCell ⟨w.heap.size+1,0,none⟩ (.slice none 0 0)).setCell ⟨w.heap.size+1,1,none⟩ (.slice none 0 0)).setCell ⟨w.heap.size+1,2,none⟩ (.slice none 0 0)).setCell ⟨w.heap.size+1,3,none⟩ (.int .i64 0)).setCell ⟨w.heap.size+1,4,none⟩ (.int .i64 0)).setCell ⟨w.heap.size+1,5,none⟩ (.int .i64 0)))=wz at *
 have hBz:Below w.heap.size w w1:=BB.trans (hb1.mono (by omega))
 refine⟨_,by rw[HQ.out];rfl,by rw[HQ.out];exact E9.zero _ _,hBz.trans (hT.below hBz.size fun j hj=>by have hj:j=w.heap.size+1:=hj;omega)⟩
set_option maxRecDepth 100000 in
set_option maxHeartbeats 4000000 in
theorem WY {w:World}{e:D.Env}{x v:Int}{c0 c1 c2 c3 c4 c6 c7 c8 c9 c15:Value}(hw:Ay e.M)(hs:A7 e.S)(hL:Cb w)(hB:∀ k,k∈DX->k<w.heap.size)
  (hV:V w P0 none (.agg (Af e)) (.agg (Lu e c0 c1 c2 c3 c4 c6 c7 c8 c9 c15))) (hgood:CD e x=0) (hbad:(BC e (Fp e) (Aw e.M x)).2.2≠0) :
  Calls Tryz.prog 161 #[.agg (Lu e c0 c1 c2 c3 c4 c6 c7 c8 c9 c15),.int .i64 x,.int .i64 v] w (LI w e x v):=by
 have HQ:Hid (AW e x v=(default,(BC e (Fp e) (Aw e.M x)).2.2)):=by unfold Hid AW;rw[AlI (by omega),Ak0,AlO hbad,Ak4]
 have HC:=Lib.hid (Ek hw hs x)
 have HS:=Lib.hid (PI hw hgood)
 generalize BC e (Fp e) (Aw e.M x)=sv at HQ HS hbad
 obtain⟨who,k,err⟩:=sv
 have hne:(err==0)=false:=by simpa using hbad
 change Hid (AW e x v=(default,err)) at HQ
 clear hbad
 unfold Lu at hV ⊢
 rw[hgood]at HC
 go_enter Tryz.func161,Tryz.ntmps161
 obtain⟨B0,B1,B2,BB⟩:=IA w (.cells #[c0,c1,c2,c3,c4,.int .i64 e.M.Claim,c6,c7,c8,c9,.int .i64 e.S.Last,.int .i64 e.S.Alone,.int .i64 e.S.Claim,.int .i64 e.Pid,.bool e.Timeout,c15] AhH (0,0)) (.cells #[.slice none 0 0,.slice none 0 0,.slice none 0 0,.int .i64 0,.int .i64 0,.int .i64 0] BG (0,0))
 go_wp2_with (first
  | (go_at_call 93;refine(HC.out.at hL hB BB (PL (hV.keep BB) .sc)).mono ?_;rintro r w1 ⟨u,rfl,hb1,hu⟩;obtain rfl:=hu.sc_inv;have Z0:=(hb1.block _ (by omega)).trans B0;have Z1:=(hb1.block _ (by omega)).trans B1;have BW:=BB.trans (hb1.mono (by omega)))
  | (go_at_call 128;refine(HS.out.at hL hB BW (PL (Yv Z0 (hV.keep BW)) .sc)).mono ?_;rintro r w2 ⟨u,rfl,hb2,hu⟩;obtain rfl:=Po hu;have Y1:=(hb2.block _ (BJ Z1)).trans Z1;obtain⟨d0,d1,d2,d3,d4,d5,g0,g1,g2,g3,g4,g5⟩:=MZ Y1))
 have hres:=MJ Y1 (.slice none 0 0) (.slice none 0 0) (.slice none 0 0) (.int .i64 0) (.int .i64 0) (.int .i64 0)
 have hT:=H6 (w:=w2) (b:=w.heap.size+1) (.slice none 0 0) (.slice none 0 0) (.slice none 0 0) (.int .i64 0) (.int .i64 0) (.int .i64 0)
 refine DS rfl rfl hres Tryz.underlying35 rfl (by kernel_rfl) rfl ?_
 generalize (((((((w2.setCell ⟨w.heap.size+1,0,none⟩ (.slice none 0 0)).setCell ⟨w.heap.size+1,1,none⟩ (.slice none 0 0)).setCell ⟨w.heap.size+1,2,none⟩ (.slice none 0 0)).setCell ⟨w.heap.size+1,3,none⟩ (.int .i64 0)).setCell ⟨w.heap.size+1,4,none⟩ (.int .i64 0)).setCell ⟨w.heap.size+1,5,none⟩ (.int .i64 0)))=wz at *
 have hBz:Below w.heap.size w w2:=BW.trans (hb2.mono BW.size)
 refine⟨_,by rw[HQ.out];rfl,by rw[HQ.out];exact E9.zero _ _,hBz.trans (hT.below hBz.size fun j hj=>by have hj:j=w.heap.size+1:=hj;omega)⟩
section
variable {w w4 w' w5:World} {s:D.State} {vg vc vp:Value} {n1 g gcap kn:Nat} {qs fs:List Value}
theorem V9.kept5 (h:V9 w w4 w' s vg vc vp n1 qs fs)(hk:∀ k,w.heap.size<=k->k<w'.heap.size->w5.heap[k]?=w'.heap[k]?)(ts:List TypeId):Cd w4 w5 n1 ts:=fun k cur t h0 h1 hc _=>by
 have e:=h.kept k h0 h1
 exact(hk k (Als h.n0 h0) (BJ (e.trans hc))).trans e
theorem Ada (h:V9 w w4 w' s (.slice (some ⟨g,0,none⟩) s.Globals.length gcap) vc vp n1 qs fs)(hk:∀ k,w.heap.size<=k->k<w'.heap.size->w5.heap[k]?=w'.heap[k]?)(x:Int) :
  E9 (w5.setCell ⟨g,kn,none⟩ (.int .i64 x)) w.heap.size { s with Globals:=s.Globals.set kn x } #[.slice (some ⟨g,0,none⟩) s.Globals.length gcap,vc,vp,.int .i64 s.Last,.int .i64 s.Alone,.int .i64 s.Claim]:=by
 have hn0:=h.n0
 have hn2:=h.n2
 have hg:=h.g1 g rfl
 have low:∀ {qs:List Value} {v:Value} {cs:List D.Chan} {w':World},Hf w' n1 v qs cs->Hf w' w.heap.size v qs cs:=fun h2=>⟨CH h2.row hn0,h2.len,fun i u c a b=>let ⟨vs,hq⟩:=h2.each i u c a b;⟨vs,hq.base hn0⟩⟩
 have lowp:∀ {fs:List Value} {v:Value} {ps:List D.Process} {w':World},FL w' w4.heap.size v fs ps->FL w' w.heap.size v fs ps:=fun h3=>⟨CH h3.row (by omega),h3.len,fun i u p a b=>CH (h3.each i u p a b) (by omega),h3.apart⟩
 refine⟨_,_,_,qs,fs,rfl,?_,low ?_,lowp ?_⟩
 ·have h1:=Zl (k:=kn) (B4 (ts:=[D2]) h.g (Cd.of hk) (by simp)) x
  rwa [AlT]at h1
 ·exact((h.c.kept (h.kept5 hk [D1,GS,D2]) (by simp) (by simp) (by simp)).kept (ts:=[D1,GS,D2]) (Cd.low hg) (by simp) (by simp) (by simp))
 ·exact((h.p.kept (ts:=[Eo,D2]) (Cd.of fun k h0 h1=>hk k (by omega) h1) (by simp) (by simp)).kept (ts:=[Eo,D2]) (Cd.low (by omega)) (by simp) (by simp))
theorem Ac9 {i:Nat}(h:V9 w w4 w' s vg vc vp n1 qs fs)(hi:i<s.Procs.length)(hf:fs[i]?=some (.slice (some ⟨g,0,none⟩) (s.Procs.getD i default).Frame.length gcap))(hk:∀ k,w.heap.size<=k->k<w'.heap.size->w5.heap[k]?=w'.heap[k]?)(x:Int) :
  E9 (w5.setCell ⟨g,kn,none⟩ (.int .i64 x)) w.heap.size { s with Procs:=s.Procs.set i { s.Procs.getD i default with Frame:=(s.Procs.getD i default).Frame.set kn x } } #[vg,vc,vp,.int .i64 s.Last,.int .i64 s.Alone,.int .i64 s.Claim]:=by
 have hn0:=h.n0
 have hn2:=h.n2
 have hP:FL w5 w4.heap.size vp fs s.Procs:=h.p.kept (ts:=[Eo,D2]) (Cd.of fun k h0 h1=>hk k (by omega) h1) (by simp) (by simp)
 have hg:=((h.p.each i _ (s.Procs.getD i default) hf (by simp[List.getD,hi])).lt g rfl).1
 have low:∀ {qs:List Value} {v:Value} {cs:List D.Chan} {w':World},Hf w' n1 v qs cs->Hf w' w.heap.size v qs cs:=fun h2=>⟨CH h2.row hn0,h2.len,fun i u c a b=>let ⟨vs,hq⟩:=h2.each i u c a b;⟨vs,hq.base hn0⟩⟩
 have lowp:∀ {fs:List Value} {v:Value} {ps:List D.Process} {w':World},FL w' w4.heap.size v fs ps->FL w' w.heap.size v fs ps:=fun h3=>⟨CH h3.row (by omega),h3.len,fun i u p a b=>CH (h3.each i u p a b) (by omega),h3.apart⟩
 refine⟨_,_,_,qs,fs,rfl,?_,low ?_,lowp ?_⟩
 ·refine CB (B4 (ts:=[D2]) h.g (Cd.of hk) (by simp)) fun k e=>Below.heap_setCell _ _ _ _ ?_
  have:=h.g1 k e
  simp;omega
 ·exact(h.c.kept (ts:=[D1,GS,D2]) (fun k cur t h0 h1 hc ht=>(Below.heap_setCell _ _ _ _ (by simp;omega)).trans (h.kept5 hk [D1,GS,D2] k cur t h0 h1 hc ht)) (by simp) (by simp) (by simp))
 ·exact(FL.write hP hi hf x)
end
theorem QQ.below {w w':World}{e:D.Env}{c0 c1 c2 c3 c4 c6 c7 c8 c9 c15:Value}(h:QQ w e c0 c1 c2 c3 c4 c6 c7 c8 c9 c15)(hb:Below w.heap.size w w'):QQ w' e c0 c1 c2 c3 c4 c6 c7 c8 c9 c15 :=
 ⟨h.t.below hb,h.f.below hb,h.g.below hb,h.c.below hb,h.p.below hb⟩
theorem Aa6 {w w2 w6 w7:World}{e:D.Env}{x v:Int}{kn:Nat}{ty:D.Type}{vs:Array Value}(HQ:Hid (AW e x v=(setG e.M e.S kn v,0)))(HTY:Hid (e.M.Globals.getD kn default=ty))
  (HV:Hid (E9 w6 w2.heap.size { e.S with Globals:=e.S.Globals.set kn (Ej ty.Bits ty.Signed v) } vs)) (HB:Below w.heap.size w w6)
  (hT:Ca w6 w7 (fun k=>k=w.heap.size+1)) (hr:w.heap.size+1<w2.heap.size):LI w e x v (.returned (.tuple #[.agg vs,.int .i64 0])) w7:=by
 refine⟨vs,by rw[HQ.out],?_,HB.trans (hT.below HB.size fun j hj=>by have hj:j=w.heap.size+1:=hj;omega)⟩
 rw[HQ.out]
 have e1:setG e.M e.S kn v={ e.S with Globals:=e.S.Globals.set kn (Ej ty.Bits ty.Signed v) }:=by
  unfold setG IR
  rw[show((kn:Nat):Int).toNat=kn by omega,HTY.out]
 rw[e1]
 exact(E9.aside (b:=w.heap.size+1) (B:=w2.heap.size) HV.out hr hT).base (by omega)
set_option maxRecDepth 100000 in
set_option maxHeartbeats 4000000 in
theorem W0 {w:World}{e:D.Env}{x v who k:Int}{c0 c1 c2 c3 c4 c6 c7 c8 c9 c15:Value}(hw:Ay e.M)(hs:A7 e.S)(hL:Cb w)(hB:∀ k,k∈DX->k<w.heap.size)
  (hV:V w P0 none (.agg (Af e)) (.agg (Lu e c0 c1 c2 c3 c4 c6 c7 c8 c9 c15))) (hat:QQ w e c0 c1 c2 c3 c4 c6 c7 c8 c9 c15) (hgood:CD e x=0) (hsl:BC e (Fp e) (Aw e.M x)=(who,k,0)) (hwho:who<0) :
  Calls Tryz.prog 161 #[.agg (Lu e c0 c1 c2 c3 c4 c6 c7 c8 c9 c15),.int .i64 x,.int .i64 v] w (LI w e x v):=by
 have HQ:Hid (AW e x v=(setG e.M e.S k v,0)):=by
  unfold Hid AW Oa
  rw[AlI (by omega),Ak0,hsl]
  show(bif decide ((0:Int)≠0) then _ else _)=_
  rw[AlI (by simp),Ak0,AlO hwho,Ak4]
 have HC:=Lib.hid (Ek hw hs x)
 have HS:=Lib.hid (PI hw hgood)
 obtain⟨hE,hx0,hx1⟩:=IT hw hgood
 have hin:=(Kl hE hx0 hx1 (ev:=Fp e) (by rw[hsl])).glob (by rw[hsl];exact hwho)
 have hfit:=hE.fit
 have htl:e.S.Globals.length=e.M.Globals.length:=EI hE.globals.2
 rw[hsl]at hin HS
 change 0<=k/\k<e.S.Globals.length at hin
 obtain⟨kn,rfl⟩:∃ kn:Nat,k=kn:=⟨k.toNat,by omega⟩
 have hkn:kn<e.S.Globals.length:=by omega
 have hkt:kn<e.M.Globals.length:=by omega
 obtain⟨tb,toff,tcap,rfl,ht1,ht2,htb,htc⟩:∃ b off cap,c0=.slice (some ⟨b,off,none⟩) e.M.Globals.length cap/\e.M.Globals.length<=cap/\cap<=maxLen/\b<w.heap.size/\∀ i,i<e.M.Globals.length->w.cell? ⟨b,off+i*2,none⟩=some (.int .i64 (e.M.Globals.getD i default).Bits)/\w.cell? ⟨b,off+i*2+1,none⟩=some (.bool (e.M.Globals.getD i default).Signed):=by
  obtain⟨ao,cap,rfl,h1,h2,h3⟩:=hat.t
  obtain⟨b,off,rfl,h4,h5⟩:=h3 (by omega)
  exact⟨b,off,cap,rfl,h1,h2,h4,h5⟩
 obtain⟨ty0,ty1⟩:=htc kn hkt
 obtain⟨ty,hty⟩:∃ ty,e.M.Globals.getD kn default=ty:=⟨_,rfl⟩
 rw[hty]at ty0 ty1
 have HTY:=Lib.hid hty
 clear hty
 have HTL:=Lib.hid htl
 clear htc htl
 clear hin hsl hE
 unfold Lu at hV ⊢
 rw[hgood]at HC
 go_enter Tryz.func161,Tryz.ntmps161
 obtain⟨B0,B1,B2,BB⟩:=IA w (.cells #[.slice (some ⟨tb,toff,none⟩) e.M.Globals.length tcap,c1,c2,c3,c4,.int .i64 e.M.Claim,c6,c7,c8,c9,.int .i64 e.S.Last,.int .i64 e.S.Alone,.int .i64 e.S.Claim,.int .i64 e.Pid,.bool e.Timeout,c15] AhH (0,0)) (.cells #[.slice none 0 0,.slice none 0 0,.slice none 0 0,.int .i64 0,.int .i64 0,.int .i64 0] BG (0,0))
 go_wp2_with (first
  | (go_at_call 93;refine(HC.out.at hL hB BB (PL (hV.keep BB) .sc)).mono ?_;rintro r w1 ⟨u,rfl,hb1,hu⟩;obtain rfl:=hu.sc_inv;have Z0:=(hb1.block _ (by omega)).trans B0;have Z1:=(hb1.block _ (by omega)).trans B1;have BW:=BB.trans (hb1.mono (by omega)))
  | (go_at_call 128;refine(HS.out.at hL hB BW (PL (Yv Z0 (hV.keep BW)) .sc)).mono ?_;rintro r w2 ⟨u,rfl,hb2,hu⟩;obtain rfl:=Po hu;have Y0:=(hb2.block _ (BJ Z0)).trans Z0;have Y1:=(hb2.block _ (BJ Z1)).trans Z1;have BX:=BW.trans (hb2.mono BW.size);have s7:w2.cell? ⟨w.heap.size,7,none⟩=some c7:=Aj Y0 rfl;have s8:w2.cell? ⟨w.heap.size,8,none⟩=some c8:=Aj Y0 rfl;have s9:w2.cell? ⟨w.heap.size,9,none⟩=some c9:=Aj Y0 rfl;have s10:w2.cell? ⟨w.heap.size,10,none⟩=some (.int .i64 e.S.Last):=Aj Y0 rfl;have s11:w2.cell? ⟨w.heap.size,11,none⟩=some (.int .i64 e.S.Alone):=Aj Y0 rfl;have s12:w2.cell? ⟨w.heap.size,12,none⟩=some (.int .i64 e.S.Claim):=Aj Y0 rfl)
  | (go_at_call 14;refine(Qq hfit (hat.below BX).g (hat.below BX).c (hat.below BX).p).mono ?_;rintro r w3 ⟨vg,vc,vp,n1,qs,fs,w4,rfl,hcp⟩;obtain⟨ag,gcap,rfl,hg1,hg2,hg3⟩:=Db hcp.g;obtain⟨ac,ccap,rfl,_⟩:=Db hcp.c.row;obtain⟨ap,pcap,rfl,_⟩:=Db hcp.p.row))
 have hz3:=hcp.below.size
 have hz2:=BX.size
 have hsz0:=BJ Y1
 obtain⟨g,rfl,hgb,hgl,hgc⟩:=hg3 (by omega)
 obtain⟨gcur,hgk⟩:=AU hcp.g (k:=g) rfl
 have hgn:=hcp.g1 g rfl
 have K0:=(Below.heap_alloc w3 (.cells #[.slice (some ⟨g,0,none⟩) e.S.Globals.length gcap,.slice ac e.S.Chans.length ccap,.slice ap e.S.Procs.length pcap,.int .i64 e.S.Last,.int .i64 e.S.Alone,.int .i64 e.S.Claim] BG (0,0)) _ (by omega)).trans ((hcp.below.block _ (BJ Y0)).trans Y0)
 have K1:=(Below.heap_alloc w3 (.cells #[.slice (some ⟨g,0,none⟩) e.S.Globals.length gcap,.slice ac e.S.Chans.length ccap,.slice ap e.S.Procs.length pcap,.int .i64 e.S.Last,.int .i64 e.S.Alone,.int .i64 e.S.Claim] BG (0,0)) _ (by omega)).trans ((hcp.below.block _ (BJ Y1)).trans Y1)
 have K2:=heap_alloc_new w3 (.cells #[.slice (some ⟨g,0,none⟩) e.S.Globals.length gcap,.slice ac e.S.Chans.length ccap,.slice ap e.S.Procs.length pcap,.int .i64 e.S.Last,.int .i64 e.S.Alone,.int .i64 e.S.Claim] BG (0,0))
 have KB:Below w3.heap.size w3 (w3.alloc (.cells #[.slice (some ⟨g,0,none⟩) e.S.Globals.length gcap,.slice ac e.S.Chans.length ccap,.slice ap e.S.Procs.length pcap,.int .i64 e.S.Last,.int .i64 e.S.Alone,.int .i64 e.S.Claim] BG (0,0))):=(Below.refl _ w3).alloc (Ak6 _) _
 have KZ:(w3.alloc (.cells #[.slice (some ⟨g,0,none⟩) e.S.Globals.length gcap,.slice ac e.S.Chans.length ccap,.slice ap e.S.Procs.length pcap,.int .i64 e.S.Last,.int .i64 e.S.Alone,.int .i64 e.S.Claim] BG (0,0))).heap.size=w3.heap.size+1:=by simp
 generalize w3.alloc (.cells #[.slice (some ⟨g,0,none⟩) e.S.Globals.length gcap,.slice ac e.S.Chans.length ccap,.slice ap e.S.Procs.length pcap,.int .i64 e.S.Last,.int .i64 e.S.Alone,.int .i64 e.S.Claim] BG (0,0))=wd at *
 have BD:Below w.heap.size w wd:=(BX.trans (hcp.below.mono hz2)).trans (KB.mono (by omega))
 rw[← BD.cell (p:=⟨tb,toff+kn*2,none⟩) htb]at ty0
 rw[← BD.cell (p:=⟨tb,toff+kn*2+1,none⟩) htb]at ty1
 have x0:wd.cell? ⟨w.heap.size,0,none⟩=some (.slice (some ⟨tb,toff,none⟩) e.M.Globals.length tcap):=Aj K0 rfl
 have x1:wd.cell? ⟨w3.heap.size,0,none⟩=some (.slice (some ⟨g,0,none⟩) e.S.Globals.length gcap):=Aj K2 rfl
 have hgw:wd.heap[g]?=some (.cells gcur D2 (0,0)):=(KB.block _ hgl).trans hgk
 have xg:wd.cell? ⟨g,kn,none⟩=some (.int .i64 (e.S.Globals.getD kn 0)):=by
  rw[KB.cell (p:=⟨g,kn,none⟩) hgl,hgc kn (by omega)];simp[List.getD,hkn]
 have hgd:g<wd.heap.size:=by omega
 have hsd:w3.heap.size<wd.heap.size:=by omega
 have hsg:w3.heap.size≠(⟨g,kn,none⟩:Addr).block:=by simp;omega
 have hrg:w.heap.size+1≠(⟨g,kn,none⟩:Addr).block:=by simp;omega
 have hrd:w.heap.size+1<wd.heap.size:=by omega
 have hng:w.heap.size<=(⟨g,kn,none⟩:Addr).block:=by simp;omega
 have hrw:w.heap.size+1<w2.heap.size:=hsz0
 clear s7 s8 s9 s10 s11 s12 hgc hg3
 have hg2':=hg2
 have ht2':=ht2
 unfold maxLen at hg2' ht2'
 go_region_with (go_at_call 37;(with_reducible refine(Agl _ _ _ _).mono ?_);rintro r w5 ⟨rfl,hb5⟩;have hb5':Below wd.heap.size wd w5:=⟨hb5.os,hb5.tape,hb5.output,hb5.size,hb5.block⟩;have x5:w5.cell? ⟨g,kn,none⟩=_:=(hb5'.cell (p:=⟨g,kn,none⟩) hgd).trans xg;have y1:w5.cell? ⟨w3.heap.size,0,none⟩=_:=(hb5'.cell (p:=⟨w3.heap.size,0,none⟩) hsd).trans x1;have f5:w5.frozen? ⟨g,kn,none⟩=false:=Ax ((hb5'.block _ hgd).trans hgw))
 all_goals
  have L0:(w5.setCell ⟨g,kn,none⟩ (.int .i64 (Ej ty.Bits ty.Signed v))).heap[w3.heap.size]?=_:=(Below.heap_setCell _ _ _ _ hsg).trans ((hb5'.block _ hsd).trans K2)
  have L1:(w5.setCell ⟨g,kn,none⟩ (.int .i64 (Ej ty.Bits ty.Signed v))).heap[w.heap.size+1]?=_:=(Below.heap_setCell _ _ _ _ hrg).trans ((hb5'.block _ hrd).trans K1)
  have HV:Hid (E9 (w5.setCell ⟨g,kn,none⟩ (.int .i64 (Ej ty.Bits ty.Signed v))) w2.heap.size { e.S with Globals:=e.S.Globals.set kn (Ej ty.Bits ty.Signed v) } #[.slice (some ⟨g,0,none⟩) e.S.Globals.length gcap,.slice ac e.S.Chans.length ccap,.slice ap e.S.Procs.length pcap,.int .i64 e.S.Last,.int .i64 e.S.Alone,.int .i64 e.S.Claim]) :=
   Ada hcp (fun k h0 h1=>(hb5'.block k (by omega)).trans (KB.block k h1)) _
  have HB:Below w.heap.size w (w5.setCell ⟨g,kn,none⟩ (.int .i64 (Ej ty.Bits ty.Signed v))):=(BD.trans (hb5'.mono (by omega))).setCell (p:=⟨g,kn,none⟩) hng _
  obtain⟨t0,t1,t2,t3,t4,t5,-⟩:=MZ L0
  obtain⟨d0,d1,d2,d3,d4,d5,g0,g1,g2,g3,g4,g5⟩:=MZ L1
  clear x5 y1 f5 hb5 hb5'
  generalize w5.setCell ⟨g,kn,none⟩ (.int .i64 (Ej ty.Bits ty.Signed v))=w6 at *
  go_wp2
  have hres:=MJ L1 (.slice (some ⟨g,0,none⟩) e.S.Globals.length gcap) (.slice ac e.S.Chans.length ccap) (.slice ap e.S.Procs.length pcap) (.int .i64 e.S.Last) (.int .i64 e.S.Alone) (.int .i64 e.S.Claim)
  have hT:=H6 (w:=w6) (b:=w.heap.size+1) (.slice (some ⟨g,0,none⟩) e.S.Globals.length gcap) (.slice ac e.S.Chans.length ccap) (.slice ap e.S.Procs.length pcap) (.int .i64 e.S.Last) (.int .i64 e.S.Alone) (.int .i64 e.S.Claim)
  refine DS rfl rfl hres Tryz.underlying35 rfl (by kernel_rfl) rfl ?_
  exact Aa6 HQ HTY HV HB hT hrw
end Go.Proofs.YtmdcknlpalfhhaaGreatDoor
