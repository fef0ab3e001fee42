/-
  Texts, joined: GdW1, GdW2, GdW3, GdW4, GdW5, GdW6, CkP, CkS, CkA, CkH, CkW, Touch, StClone, ExS, CoP, CoV, CellRet, Scope, CoW, ExA, ExH, ValPlain, TwoPlain, ExP, ExOne, ExW1, ExW2, ExW3, ExW4, ExW5, EbP, EbS, EbW, EbX, EbV, EbY.
-/
import Derived.Test.YtmdcknlpalfhhaaGreatDoorSkB
import Derived.KernelRfl
import Derived.WalkKit
import Derived.OneCell
import Derived.Deep.QuietTactic
import Derived.BigRegion
import Derived.Deep.RegionLaw
import Derived.Deep.AppendLies
import Derived.Lib.SliceRun
import Derived.Lib.Hide
import Derived.Laws.Rows
import Derived.Test.YtmdcknlpalfhhaaGreatDoorProg
import Derived.WalkSpells
import Derived.WalkLawsBesides
import Derived.BigQuiet
namespace Go.Proofs.YtmdcknlpalfhhaaGreatDoor
open Go.RowKit
theorem AG {a b:Bool}(h:a=b):leO [] []/\VV.le (.sc (.bool a)) (.sc (.bool b)):=⟨trivial,Al0 (by rw[h])⟩
theorem C4 {a b:Int}(h:a=b):leO [] []/\VV.le (.sc (.int .i64 a)) (.sc (.int .i64 b)):=⟨trivial,Al0 (by rw[h])⟩
theorem MB {a b c d:Int}(h:(a,b)=(c,d)):leO [] []/\VV.le (.tup [.sc (.int .i64 a),.sc (.int .i64 b)]) (.tup [.sc (.int .i64 c),.sc (.int .i64 d)]):=by
 simp only[Alu]at h;exact⟨trivial,Al0 (by rw[h.1,h.2])⟩
theorem U6 {a b c d e f:Int}(h:(a,b,c)=(d,e,f)):leO [] []/\VV.le (.tup [.sc (.int .i64 a),.sc (.int .i64 b),.sc (.int .i64 c)]) (.tup [.sc (.int .i64 d),.sc (.int .i64 e),.sc (.int .i64 f)]):=by
 simp only[Alu]at h;exact⟨trivial,Al0 (by rw[h.1,h.2.1,h.2.2])⟩
theorem A3 {a b:Int}(h:decide (a<b)=true):a<b:=AkW h
theorem A5 {a b:Int}(h:decide (a<b)=false):b<=a:=by have:=Ak6 h;omega
theorem Ajx {n:Int}(h:Ev.wInt .i64 n):-9223372036854775808<=n/\n<=9223372036854775807:=Adb.1 h
theorem Ug (t:D.Type):Aj Tryz.prog 108 [] [.agg (Dz t)] [] (Ac (HY t)):=by
 refine Ah Al Am Tryz.func108 (by kernel_rfl) rfl (AfZ _ t) (AG ?_)
 rw[Alc];simp[HY];cases t.Signed<;>simp<;>omega
theorem Ah9 {t:D.Type}(h:HY t=true):1<=t.Bits/\t.Bits<=32/\(t.Signed=true->t.Bits=16∨t.Bits=32):=by
 unfold HY at h
 simp at h
 refine⟨h.1,h.2.1,fun hs=>?_⟩
 rcases h.2.2 with h | h
 ·rw[hs]at h;cases h
 ·exact h
theorem Aeq {n:Nat}(h:n<=32):(1:Int)<=2 ^ n/\(2:Int) ^ n<=4294967296:=by
 have h1:(2:Nat) ^ n<=2 ^ 32:=Aml (by omega) h
 have h2:1<=(2:Nat) ^ n:=Nat.one_le_two_pow
 have e:(2:Int) ^ n=((2 ^ n:Nat):Int):=by simp
 rw[e]
 have e32:(2:Nat) ^ 32=4294967296:=by decide
 omega
theorem Np (t:D.Type)(v:Int):Aj Tryz.prog 107 [] [.agg (Dz t),Aa v] [] (Ac (DF t v)):=by
 refine Ah Al Am Tryz.func107 (by kernel_rfl) rfl (Ae5 _ t v) ⟨HY t,Ug t,fun h=>AG ?_,fun h=>?_⟩
 ·have h':HY t=false:=by simpa using h
  simp[DF,h']
 ·have h':HY t=true:=by simpa using h
  obtain⟨h1,h2,h3⟩:=Ah9 h'
  have hb:IntKind.i64.bits=64:=rfl
  have hw:IntKind.i64.wrap (t.Bits - 1)=t.Bits - 1:=BF (by omega) (by omega)
  refine⟨fun hs=>?_,fun hs=>?_⟩
  ·rw[hw]
   refine⟨by omega,fun _=>by omega,AG ?_⟩
   have hp:=Aeq (n:=(t.Bits - 1).toNat) (by omega)
   have hm:min (t.Bits - 1).toNat IntKind.i64.bits=(t.Bits - 1).toNat:=by rw[hb];omega
   rw[hm,BF (n:=-1*_) (by omega) (by omega),BF (n:=1*_) (by omega) (by omega)]
   have e1:(-1:Int)*2 ^ (t.Bits - 1).toNat=-(2 ^ (t.Bits - 1).toNat):=by omega
   have e2:(1:Int)*2 ^ (t.Bits - 1).toNat=2 ^ (t.Bits - 1).toNat:=by omega
   rw[e1,e2]
   simp only[DF,h',hs,AkQ,AlI,Amk]
   cases decide (-(2:Int) ^ (t.Bits - 1).toNat<=v)<;>rfl
  ·refine⟨fun _=>by omega,AG ?_⟩
   have hp:=Aeq (n:=t.Bits.toNat) (by omega)
   have hm:min t.Bits.toNat IntKind.i64.bits=t.Bits.toNat:=by rw[hb];omega
   rw[hm,BF (n:=1*_) (by omega) (by omega)]
   have e2:(1:Int)*2 ^ t.Bits.toNat=2 ^ t.Bits.toNat:=by omega
   rw[e2]
   simp only[DF,h',hs,AkN,AlI,Amk]
   cases decide (0<=v)<;>rfl
theorem GW {v:D.Var}(hv:Ld v):Aj Tryz.prog 116 [] [.agg (Ct v)] [] (Aa (Ew v)):=by
 have hd:=hv.Dims
 refine Ah Al Am Tryz.func116 (by kernel_rfl) rfl (Abt _ v) ⟨fun h=>C4 ?_,fun h=>?_⟩
 ·unfold Ew
  have:(decide (v.Slot<0)||(decide (1073741824<v.Slot)||decide (4<v.Dims.length)))=true:=by simp at h ⊢;omega
  rw[this,AkQ]
 ·have hb:0<=v.Slot/\v.Slot<=1073741824/\v.Dims.length<=4:=by simp at h;omega
  have e:Ew v=Fv (v.Slot+1) v.Dims:=by
   unfold Ew
   have:(decide (v.Slot<0)||(decide (1073741824<v.Slot)||decide (4<v.Dims.length)))=false:=by simp;omega
   rw[this,AkN]
  rw[e,BF (by omega) (by omega)]
  refine Br Al Am (fun g st=>∃ (k:Nat) (n:Int),k<=v.Dims.length/\g=v.Dims.length - k/\0<=n/\n<=1073741825+k*1152921504606846976/\Fv n (v.Dims.drop k)=Fv (v.Slot+1) v.Dims/\st=Oq n v k) (by kernel_rfl) (by kernel_rfl)
   ⟨_,Up.of ⟨0,v.Slot+1,AkV _,rfl,by omega,by omega,rfl,rfl⟩⟩ ?_
  rintro g st ⟨k,n,hk,rfl,hn0,hn1,hr,rfl⟩
  refine Ali (Xm _ n v k _) ⟨fun hlt=>?_,fun hge=>C4 ?_⟩
  ·have hlt':k<v.Dims.length:=by have:=A3 hlt;omega
   have hto:(k:Int).toNat=k:=by omega
   rw[hto]
   have hdr:v.Dims.drop k=v.Dims.getD k default::v.Dims.drop (k+1):=by
    rw[Amh hlt'];simp[List.getD,hlt']
   have hw:=hd.2 _ (Aw (d:=default) hlt')
   generalize v.Dims.getD k default=d at hdr hw ⊢
   have hwl:=Ajx hw.Len
   rw[hdr]at hr
   refine⟨⟨by omega,by omega⟩,fun hy=>C4 ?_,fun hy=>?_⟩
   ·rw[← hr]
    have:LG d=true:=by
     unfold LG
     by_cases hl:d.Len<1
     ·simp[hl]
     ·rw[BF (by omega) (by omega)]at hy
      simp at hy ⊢;omega
    show _=Fv n (d::_)
    unfold Fv;rw[this]<;>rfl
   ·have hl:1<=d.Len:=by
     by_cases hl:d.Len<1
     ·simp[hl]at hy
     ·omega
    have hwr:IntKind.i64.wrap (d.Len - 1)=d.Len - 1:=BF (by omega) (by omega)
    rw[hwr]at hy ⊢
    have hb2:d.Len - 1<=1073741824/\0<=d.Stride/\d.Stride<=1073741824:=by simp at hy;omega
    have hbad:LG d=false:=by unfold LG;simp;omega
    have hm1:0<=(d.Len - 1)*d.Stride:=Int.mul_nonneg (by omega) hb2.2.1
    have hm2:(d.Len - 1)*d.Stride<=1073741824*1073741824:=Int.mul_le_mul hb2.1 hb2.2.2 hb2.2.1 (by omega)
    rw[BF (n:=(d.Len - 1)*d.Stride) (by omega) (by omega),BF (n:=n+_) (by omega) (by omega),An (by omega)]
    refine⟨v.Dims.length - (k+1),by omega,Up.of ⟨k+1,n+(d.Len - 1)*d.Stride,by omega,rfl,by omega,by omega,?_,rfl⟩⟩
    rw[← hr]
    show _=Fv n (d::_)
    conv=>rhs;unfold Fv
    rw[hbad]<;>rfl
  ·have hge':v.Dims.length<=k:=by have:=A5 hge;omega
   rw[Ame hge']at hr
   rw[← hr]<;>rfl
theorem Pe {t:List D.Type}{init:List Int}(hl:t.length<=init.length)(hs:t.length<=1048576):Aj Tryz.prog 69 [] [AJ true t,Ad true init] [] (Aa (Fm t init)):=by
 refine Ah Al Am Tryz.func69 (by kernel_rfl) rfl (AaB _ t init) ?_
 refine AS Al Am t.length (fun k=>Ol t init k) (fun k=>∀ i,i<k->DF (t.getD i default) (init.getD i 0)=true) (by kernel_rfl) (by kernel_rfl) (fun i hi=>by omega) ?_
 intro k hk hI J next
 refine Ali (WG _ t init k J) ⟨fun hlt=>?_,fun hge=>C4 ?_⟩
 ·have hlt':k<t.length:=by have:=A3 hlt;omega
  refine⟨⟨by omega,by omega⟩,⟨by omega,by omega⟩,DF (t.getD k default) (init.getD k 0),Np _ _,fun hy=>C4 ?_,fun hy=>next _ hlt' (fun i hi=>?_) (Up.of ?_)⟩
  ·exact(Iu (f:=fun i=>DF (t.getD i default) (init.getD i 0)) hI hlt' (by simpa using hy)).symm
  ·rcases Alr.1 hi with h | rfl
   ·exact hI i h
   ·simpa using hy
  ·rw[An (by omega)]<;>rfl
 ·have hge':t.length<=k:=by have:=A5 hge;omega
  exact(Iv (f:=fun i=>DF (t.getD i default) (init.getD i 0)) fun i hi=>hI i (by omega)).symm
theorem W7 {s:D.Shape}(hs:OZ s):Aj Tryz.prog 70 [] [.agg (FE s)] [] (Ac (D6 s)):=by
 have hl:=hs.Fields.1
 refine Ah Al Am Tryz.func70 (by kernel_rfl) rfl (Aa4 _ s) ⟨fun h=>AG ?_,fun h=>?_⟩
 ·symm;rw[AlM];intro hc;simp[D6]at hc h;omega
 ·have e:D6 s=D4 s.Fields.length fun i=>HY (s.Fields.getD i default):=by
   unfold D6
   have:(decide (0<=s.Room)&&decide (s.Room<=16)&&decide (1<=s.Fields.length)&&decide (s.Fields.length<=8))=true:=by simp at h ⊢;omega
   rw[this,AlI]
  rw[e]
  refine AS Al Am s.Fields.length (fun k=>Oo s k) (fun k=>∀ i,i<k->HY (s.Fields.getD i default)=true) (by kernel_rfl) (by kernel_rfl) (fun i hi=>by omega) ?_
  intro k hk hI J next
  refine Ali (W8 _ s k J) ⟨fun hlt=>?_,fun hge=>AG ?_⟩
  ·have hlt':k<s.Fields.length:=by have:=A3 hlt;omega
   refine⟨⟨by omega,by omega⟩,HY (s.Fields.getD k default),Ug _,fun hy=>AG ?_,fun hy=>next _ hlt' (fun i hi=>?_) (Up.of ?_)⟩
   ·exact(Dh (f:=fun i=>HY (s.Fields.getD i default)) hlt' (by simpa using hy)).symm
   ·rcases Alr.1 hi with h | rfl
    ·exact hI i h
    ·simpa using hy
   ·rw[An (by omega)]<;>rfl
  ·have hge':s.Fields.length<=k:=by have:=A5 hge;omega
   exact(Bx.2 fun i hi=>hI i (by omega)).symm
theorem JF (m:D.Model)(n:Int):Aj Tryz.prog 114 [] [tpM m,Aa n] [] (Ac (D0 m n)):=by
 refine Ah Al Am Tryz.func114 (by kernel_rfl) rfl (Xs _ m n) (AG ?_)
 rw[Alc];simp[D0]
theorem VO {a:Int}{l:List Int}(hl:l.length<=1099511627776):Aj Tryz.prog 110 [] [Aa a,Ad false l] [] (Ac (Da a l)):=by
 refine Ah Al Am Tryz.func110 (by kernel_rfl) rfl (AcN _ a l) ?_
 refine AS Al Am l.length (fun k=>Ow a l k) (fun k=>∀ i,i<k->inP a (l.getD i 0)=true) (by kernel_rfl) (by kernel_rfl) (fun i hi=>by omega) ?_
 intro k hk hI J next
 refine Ali (Yo _ a l k J) ⟨fun hlt=>?_,fun hge=>AG ?_⟩
 ·have hlt':k<l.length:=by have:=A3 hlt;omega
  have hto:(k:Int).toNat=k:=by omega
  rw[hto]
  refine⟨⟨by omega,by omega⟩,fun hy=>AG ?_,fun hy=>next _ hlt' (fun i hi=>?_) (Up.of ?_)⟩
  ·exact(Dh (f:=fun i=>inP a (l.getD i 0)) hlt' (by rw[AlM];intro hc;simp[inP]at hc hy;omega)).symm
  ·rcases Alr.1 hi with h | rfl
   ·exact hI i h
   ·simp[inP]at hy ⊢;omega
  ·rw[An (by omega)]<;>rfl
 ·have hge':l.length<=k:=by have:=A5 hge;omega
  exact(Bx.2 fun i hi=>hI i (by omega)).symm
theorem FI {a:Int}{l:List Int}(hl:l.length<=1099511627776):Aj Tryz.prog 110 [] [Aa a,Ad true l] [] (Ac (Da a l)):=by
 refine Ah Al Am Tryz.func110 (by kernel_rfl) rfl (Yn _ a l) ?_
 refine AS Al Am l.length (fun k=>Mg a l k) (fun k=>∀ i,i<k->inP a (l.getD i 0)=true) (by kernel_rfl) (by kernel_rfl) (fun i hi=>by omega) ?_
 intro k hk hI J next
 refine Ali (VN _ a l k J) ⟨fun hlt=>?_,fun hge=>AG ?_⟩
 ·have hlt':k<l.length:=by have:=A3 hlt;omega
  have hto:(k:Int).toNat=k:=by omega
  rw[hto]
  refine⟨⟨by omega,by omega⟩,fun hy=>AG ?_,fun hy=>next _ hlt' (fun i hi=>?_) (Up.of ?_)⟩
  ·exact(Dh (f:=fun i=>inP a (l.getD i 0)) hlt' (by rw[AlM];intro hc;simp[inP]at hc hy;omega)).symm
  ·rcases Alr.1 hi with h | rfl
   ·exact hI i h
   ·simp[inP]at hy ⊢;omega
  ·rw[An (by omega)]<;>rfl
 ·have hge':l.length<=k:=by have:=A5 hge;omega
  exact(Bx.2 fun i hi=>hI i (by omega)).symm
theorem Nu {a x:Int}:Aj Tryz.prog 110 [] [Aa a,.sl false 1 1 fun i=>List.take 1 (List.drop (i*1) [.sc (.int .i64 x)])] [] (Ac (inP a x)):=by
 have h:=VO (a:=a) (l:=[x]) (by simp)
 have e:Da a [x]=inP a x:=by simp[Da,D4,List.getD]
 rw[e]at h
 refine h.le trivial ⟨VV.le_refl _,Amg (.inl rfl) fun i hi=>AQ ?_,trivial⟩ trivial (VV.le_refl _)
 obtain rfl:i=0:=by omega
 rfl
theorem bt {b:Bool}{p:Prop}(h:b=true)(k:b=false):p:=by rw[h]at k;cases k
theorem LK {a x:Int}:Aj Tryz.prog 110 [] [Aa a,.sl true 1 1 fun i=>List.take 1 (List.drop (i*1) [.sc (.int .i64 x)])] [] (Ac (inP a x)):=by
 have h:=FI (a:=a) (l:=[x]) (by simp)
 have e:Da a [x]=inP a x:=by simp[Da,D4,List.getD]
 rw[e]at h
 refine h.le trivial ⟨VV.le_refl _,Amg (.inl rfl) fun i hi=>AQ ?_,trivial⟩ trivial (VV.le_refl _)
 obtain rfl:i=0:=by omega
 rfl
theorem ED (op:Int):Aj Tryz.prog 109 [] [Aa op] [] (Aa (Bh op)):=by
 refine Ah Al Am Tryz.func109 (by kernel_rfl) rfl (AbG _ op) ?_
 have k0:∀ {p:Prop},(op=1∨op=2∨op=31∨op=32∨op=33∨op=34∨op=35∨op=39)->leO [] []/\VV.le (.sc (.int .i64 0)) (.sc (.int .i64 (Bh op:Nat))):=fun h=>C4 (by unfold Bh;rw[Alj h]<;>rfl)
 have kx:¬(op=1∨op=2∨op=31∨op=32∨op=33∨op=34∨op=35∨op=39)->((op==(24:Int))=true->leO [] []/\(VV.sc (.int .i64 3)).le (.sc (.int .i64 (Bh op:Nat))))/\((op==(24:Int))=false ->
   ((bif decide (op>=(6:Int)) then decide (op<=(23:Int)) else false)=true->leO [] []/\(VV.sc (.int .i64 2)).le (.sc (.int .i64 (Bh op:Nat))))/\((bif decide (op>=(6:Int)) then decide (op<=(23:Int)) else false)=false->leO [] []/\(VV.sc (.int .i64 1)).le (.sc (.int .i64 (Bh op:Nat))))):=by
  intro hn
  refine⟨fun h=>C4 ?_,fun h=>⟨fun h2=>C4 ?_,fun h2=>C4 ?_⟩⟩
  ·unfold Bh;rw[Ak3 hn,Alj (by simpa using h)]<;>rfl
  ·unfold Bh;rw[Ak3 hn,Ak3 (by simpa using h),Alj (by simp at h2;omega)];rfl
  ·unfold Bh;rw[Ak3 hn,Ak3 (by simpa using h),Ak3 (by simp at h2;omega)];rfl
 refine⟨fun h1=>⟨fun _=>k0 (p:=True) (by simp at h1;omega),fun h=>bt h1 h⟩,fun h1=>⟨fun h2=>⟨fun _=>k0 (p:=True) (by simp at h2;omega),fun h=>bt h2 h⟩,fun h2=>⟨fun h3=>⟨fun _=>k0 (p:=True) (by simp at h3;omega),fun h=>bt h3 h⟩,fun h3=>⟨fun h4=>⟨fun _=>k0 (p:=True) (by simp at h4;omega),fun h=>bt h4 h⟩,fun h4=>⟨fun h5=>⟨fun _=>k0 (p:=True) (by simp at h5;omega),fun h=>bt h5 h⟩,fun h5 =>
  ⟨fun h6=>⟨fun _=>k0 (p:=True) (by simp at h6;omega),fun h=>bt h6 h⟩,fun h6=>⟨fun h7=>⟨fun _=>k0 (p:=True) (by simp at h7;omega),fun h=>bt h7 h⟩,fun h7=>⟨fun h8=>k0 (p:=True) (by simp at h8;omega),fun h8=>kx (by simp at h1 h2 h3 h4 h5 h6 h7 h8;omega)⟩⟩⟩⟩⟩⟩⟩⟩
theorem Aaw {m:D.Model}{a:Int}{v:D.Var}(hv:Ld v):Aj Tryz.prog 111 [] [tpM m,Aa a,.agg (Ct v)] [] (Ac (EJ m a v)):=by
 have hl:=hv.Dims.1
 refine Ah Al Am Tryz.func111 (by kernel_rfl) rfl (Ado _ m a v) ?_
 have hloop:∀ b:Bool,b=D4 v.Dims.length (fun i=>Nr a (v.Dims.getD i default))->AB (CR Tryz.prog tb Bk J6 true Tryz.f111 [] (Ac b)) [1,1,1,0,1,0] (MY a v 0):=by
  rintro b rfl
  refine AS Al Am v.Dims.length (fun k=>MY a v k) (fun k=>∀ i,i<k->Nr a (v.Dims.getD i default)=true) (by kernel_rfl) (by kernel_rfl) (fun i hi=>by omega) ?_
  intro k hk hI J next
  refine Ali (Aax _ a v k J) ⟨fun hlt=>?_,fun hge=>AG ?_⟩
  ·have hlt':k<v.Dims.length:=by have:=A3 hlt;omega
   have hto:(k:Int).toNat=k:=by omega
   rw[hto]
   have hdim:∀ d:D.Dim,Nr a d=!(bif bif bif bif !(inP a d.I) then true else decide (d.Len<1) then true else decide (d.Len > 128) then true else decide (d.Stride<0) then true else decide (d.Stride > 128)):=by
    intro d
    unfold Nr
    cases inP a d.I
    ·rfl
    ·rw[Alc];simp<;>omega
   refine⟨⟨by omega,by omega⟩,inP a (v.Dims.getD k default).I,Nu,fun hy=>AG ?_,fun hy=>next _ hlt' (fun i hi=>?_) (Up.of ?_)⟩
   ·exact(Dh (f:=fun i=>Nr a (v.Dims.getD i default)) hlt' (by show Nr a _=false;rw[hdim,hy]<;>rfl)).symm
   ·rcases Alr.1 hi with h | rfl
    ·exact hI i h
    ·show Nr a _=true;rw[hdim,hy]<;>rfl
   ·rw[An (by omega)]<;>rfl
  ·have hge':v.Dims.length<=k:=by have:=A5 hge;omega
   exact(Bx.2 fun i hi=>hI i (by omega)).symm
 unfold EJ
 generalize D4 v.Dims.length (fun i=>Nr a (v.Dims.getD i default))=al at hloop ⊢
 refine⟨fun h=>AG ?_,fun h=>⟨fun h2=>?_,fun h2=>?_⟩⟩
 ·symm;rw[AlM];intro hc;simp at h hc;omega
 all_goals
  have e:(decide (0<=v.Scope)&&decide (v.Scope<=2)&&decide (0<=v.Slot)&&decide (v.Slot<=128)&&decide (v.Dims.length<=4))=true:=by simp at h ⊢;omega
  rw[e,AlI]
 ·have e2:decide (v.Scope=2)=true:=by simpa using h2
  rw[e2,AkQ]
  refine⟨inP a v.Who,Nu,D0 m v.Type_,fun _=>JF _ _,fun hy=>AG ?_,fun hy=>hloop _ ?_⟩
  ·cases h3:inP a v.Who<;>cases h4:D0 m v.Type_<;>rw[h3,h4]at hy<;>first | rfl | cases hy
  ·cases h3:inP a v.Who<;>cases h4:D0 m v.Type_<;>rw[h3,h4]at hy<;>first | (simp;done) | cases hy
 ·have e2:decide (v.Scope=2)=false:=by simpa using h2
  rw[e2,AkN]
  refine⟨fun hy=>AG ?_,fun hy=>hloop _ ?_⟩
  ·symm;rw[AlM];intro hc;simp at hy hc;omega
  ·have:(decide (v.Who=-1)&&decide (v.Type_=-1))=true:=by simp at hy ⊢;omega
   rw[this,AlI]
theorem My {m:D.Model}{a:Int}{args mt:List Int}(ha:a<=m.Exprs.length)(h1:args.length<=1048576)(h2:mt.length<=1048576) :
  Aj Tryz.prog 112 [] [tpM m,Aa a,Ad true args,Ad true mt] [] (Ac (Cx m a args mt)):=by
 refine Ah Al Am Tryz.func112 (by kernel_rfl) rfl (U2 _ m a args mt) ⟨Da a args,fun _=>FI (by omega),fun h=>AG ?_,fun h=>?_⟩
 ·unfold Cx
  symm;rw[AlM];intro hc
  simp at hc h
  obtain⟨⟨⟨⟨c1,c2⟩,c3⟩,c4⟩,_⟩:=hc
  rw[c4]at h
  simp at h
  omega
 ·have hb:Da a args=true:=by
   cases hq:Da a args with
   | true=>rfl
   | false=>rw[hq]at h;simp at h
  have hlen:1<=args.length/\args.length<=8/\mt.length=args.length:=by rw[hb]at h;simp at h;omega
  have e:Cx m a args mt=D4 mt.length fun i=>Ls m (args.getD i 0) (mt.getD i 0):=by
   unfold Cx
   rw[hb];simp[hlen]
  rw[e]
  have hin:=FJ.1 hb
  refine AS Al Am mt.length (fun k=>Ko m args mt k) (fun k=>∀ i,i<k->Ls m (args.getD i 0) (mt.getD i 0)=true) (by kernel_rfl) (by kernel_rfl) (fun i hi=>by omega) ?_
  intro k hk hI J next
  refine Ali (Tb _ m args mt k J) ⟨fun hlt=>?_,fun hge=>AG ?_⟩
  ·have hlt':k<mt.length:=by have:=A3 hlt;omega
   have hto:(k:Int).toNat=k:=by omega
   rw[hto]
   have hx:=hin _ (Aw (d:=(0:Int)) (show k<args.length by omega))
   have hm:Ls m (args.getD k 0) (mt.getD k 0)=!(bif bif decide (mt.getD k 0 < -1) then true else decide (mt.getD k 0 > 1) then true else bif mt.getD k 0==0 then(m.Exprs.getD (args.getD k 0).toNat default).Op != 2 else false):=by
    unfold Ls Ax
    rw[Alc];simp<;>omega
   refine⟨⟨by omega,by omega⟩,fun _=>⟨by omega,by omega⟩,fun _=>⟨by omega,by omega⟩,fun hy=>AG ?_,fun hy=>next _ hlt' (fun i hi=>?_) (Up.of ?_)⟩
   ·exact(Dh (f:=fun i=>Ls m (args.getD i 0) (mt.getD i 0)) hlt' (by show Ls m _ _=false;rw[hm,hy]<;>rfl)).symm
   ·rcases Alr.1 hi with h | rfl
    ·exact hI i h
    ·rw[hm,hy]<;>rfl
   ·rw[An (by omega)]<;>rfl
  ·have hge':mt.length<=k:=by have:=A5 hge;omega
   exact(Bx.2 fun i hi=>hI i (by omega)).symm
theorem UO {m:D.Model}{x:D.Expr}(h1:x.Args.length<=1048576):Aj Tryz.prog 113 [] [tpM m,.agg (AT x)] [] (Ac (OA m x)):=by
 refine Ah Al Am Tryz.func113 (by kernel_rfl) rfl (Xv _ m x) ⟨D0 m x.N,fun _=>JF _ _,fun h=>AG ?_,fun h=>?_⟩
 ·unfold OA
  symm;rw[AlM];intro hc
  simp at hc h
  obtain⟨⟨⟨⟨c1,c2⟩,c3⟩,c4⟩,_⟩:=hc
  rw[c3]at h
  simp at h
  omega
 ·have hb:D0 m x.N=true:=by
   cases hq:D0 m x.N with
   | true=>rfl
   | false=>rw[hq]at h;simp at h
  have hp:0<=x.N/\x.N<m.Procs.length:=by unfold D0 at hb;simp at hb;omega
  have hlen:0<=x.N/\x.N<1073741824/\1<=x.Args.length:=by rw[hb]at h;simp at h;omega
  refine⟨⟨by omega,by omega⟩,Da (IR m x.N).length x.Args,FI (by omega),AG ?_⟩
  unfold OA
  rw[hb];simp[hlen]
theorem Ik {a op:Int}{i:Nat}{p:Int}:FX a op i p=!(bif bif decide ((i:Int)<(Bh op:Nat)) then !(inP a p) else false then true else bif decide ((i:Int)>=(Bh op:Nat)) then p != -1 else false):=by
 unfold FX
 by_cases h:i<Bh op
 ·have h1:decide (i<Bh op)=true:=by simpa using h
  have h2:decide ((i:Int)<(Bh op:Nat))=true:=by simp;omega
  have h3:decide ((i:Int)>=(Bh op:Nat))=false:=by simp;omega
  rw[h1,h2,h3];simp
 ·have h1:decide (i<Bh op)=false:=by simpa using h
  have h2:decide ((i:Int)<(Bh op:Nat))=false:=by simp;omega
  have h3:decide ((i:Int)>=(Bh op:Nat))=true:=by simp;omega
  rw[h1,h2,h3,Alc];simp
theorem Acs {m:D.Model}{a:Int}(h0:0<=a)(ha:a<m.Exprs.length)(hw:Oh (Ax m a)):Aj Tryz.prog 71 [] [tpM m,Aa a] [] (Ac (EP m a)):=by
 refine Ah Al Am Tryz.func71 (by kernel_rfl) rfl (Afa _ m a) ⟨⟨h0,ha⟩,fun h=>AG ?_,fun h=>?_⟩
 ·symm;rw[AlM];intro hc
  unfold EP at hc
  simp only[AkO,AkS]at hc
  have h':(bif decide ((Ax m a).Op<1) then true else decide ((Ax m a).Op > 39))=true:=h
  simp at h'
  omega
 ·have hop:1<=(Ax m a).Op/\(Ax m a).Op<=39:=by
   have h':(bif decide ((Ax m a).Op<1) then true else decide ((Ax m a).Op > 39))=false:=h
   simp at h';omega
  have hargs:=hw.Args.1
  have hmt:=hw.Match.1
  have hwv:=hw.V
  generalize hb:EP m a=b
  unfold EP at hb
  simp only at hb
  show AB _ _ (Fq m a (Ax m a) 0)
  generalize Ax m a=x at hop hargs hmt hwv hb ⊢
  have e:(decide (1<=x.Op)&&decide (x.Op<=39))=true:=by simp;omega
  rw[e,AlI]at hb
  refine Br Al Am (fun g st=>(g=3/\st=Fq m a x 0)∨(g=2/\FX a x.Op 0 x.A=true/\st=Fq m a x 1)∨(g=1/\FX a x.Op 0 x.A=true/\FX a x.Op 1 x.B=true/\st=Fq m a x 2)∨(g=0/\FX a x.Op 0 x.A=true/\FX a x.Op 1 x.B=true/\FX a x.Op 2 x.C=true/\st=Fq m a x 3))
   (by kernel_rfl) (by kernel_rfl) ⟨3,Up.of (.inl ⟨rfl,rfl⟩)⟩ ?_
  rintro g st (⟨rfl,rfl⟩ | ⟨rfl,p0,rfl⟩ | ⟨rfl,p0,p1,rfl⟩ | ⟨rfl,p0,p1,p2,rfl⟩)
  ·refine Ali (Vt _ m a x _) ⟨fun _=>⟨⟨by omega,by omega⟩,_,ED _,_,fun _=>LK,_,fun _=>ED _,fun hy=>AG ?_,fun hy=>⟨2,by omega,Up.of (.inr (.inl ⟨rfl,?_,?_⟩))⟩⟩,fun h=>by cases h⟩
   ·have hp:FX a x.Op 0 x.A=false:=by rw[Ik];exact congrArg (!·) hy
    rw[← hb,hp]<;>rfl
   ·rw[Ik];exact congrArg (!·) hy
   ·rw[BF (by omega) (by omega)]<;>rfl
  ·refine Ali (Vs _ m a x _) ⟨fun _=>⟨⟨by omega,by omega⟩,_,ED _,_,fun _=>LK,_,fun _=>ED _,fun hy=>AG ?_,fun hy=>⟨1,by omega,Up.of (.inr (.inr (.inl ⟨rfl,p0,?_,?_⟩)))⟩⟩,fun h=>by cases h⟩
   ·have hp:FX a x.Op 1 x.B=false:=by rw[Ik];exact congrArg (!·) hy
    rw[← hb,p0,hp]<;>rfl
   ·rw[Ik];exact congrArg (!·) hy
   ·rw[BF (by omega) (by omega)]<;>rfl
  ·refine Ali (Vr _ m a x _) ⟨fun _=>⟨⟨by omega,by omega⟩,_,ED _,_,fun _=>LK,_,fun _=>ED _,fun hy=>AG ?_,fun hy=>⟨0,by omega,Up.of (.inr (.inr (.inr ⟨rfl,p0,p1,?_,?_⟩)))⟩⟩,fun h=>by cases h⟩
   ·have hp:FX a x.Op 2 x.C=false:=by rw[Ik];exact congrArg (!·) hy
    rw[← hb,p0,p1,hp]<;>rfl
   ·rw[Ik];exact congrArg (!·) hy
   ·rw[BF (by omega) (by omega)]<;>rfl
  ·rw[p0,p1,p2]at hb
   simp only[Bool.and_self,AlI]at hb
   subst hb
   refine Ali (Vq _ m a x _) ⟨fun h=>(by cases h),fun _=>⟨fun h1=>⟨_,Np ⟨32,true⟩ _,AG ?_⟩,fun h1=>⟨fun h2=>⟨_,Aaw hwv,AG ?_⟩,fun h2=>⟨fun h3=>⟨_,My (by omega) hargs hmt,AG ?_⟩,fun h3=>⟨fun h4=>⟨_,UO hargs,AG ?_⟩,fun h4 =>
    ⟨fun h5=>⟨D0 m x.N,fun _=>JF _ _,fun hy=>?_,Da a x.Args,fun _=>FI (by omega),AG ?_⟩,fun h5=>AG ?_⟩⟩⟩⟩⟩⟩
   ·rw[Alj (by simpa using h1)]
   ·rw[Ak3 (by simpa using h1),Alj (by simpa using h2)]
   ·rw[Ak3 (by simpa using h1),Ak3 (by simpa using h2),Alj (by simpa using h3)]
    cases Cx m a x.Args x.Match
    ·rfl
    ·rw[Alc];simp
   ·rw[Ak3 (by simpa using h1),Ak3 (by simpa using h2),Ak3 (by simpa using h3),Alj (by simpa using h4)]
   ·have hb:D0 m x.N=true:=by
     cases hq:D0 m x.N with
     | true=>rfl
     | false=>rw[hq]at hy;simp at hy
    unfold D0 at hb;simp at hb;omega
   ·rw[Ak3 (by simpa using h1),Ak3 (by simpa using h2),Ak3 (by simpa using h3),Ak3 (by simpa using h4),Alj (by simpa using h5)]
    cases D0 m x.N<;>cases Da a x.Args<;>first | (simp;done) | (rw[Alc];simp)
   ·rw[Ak3 (by simpa using h1),Ak3 (by simpa using h2),Ak3 (by simpa using h3),Ak3 (by simpa using h4),Ak3 (by simpa using h5)]
theorem BN {α:Type}{l:List α}{k:Nat}{d:α}(h:k<l.length):l.drop k=l.getD k d::l.drop (k+1):=by
 rw[Amh h];simp[List.getD,h]
theorem Ie {α:Type}{l:List α}{k:Nat}{d:α}(h:k<l.length):l.take (k+1)=l.take k++[l.getD k d]:=by
 rw[AmR,Ak1 h];simp[List.getD,h]
theorem E8 {α:Type}{i n:Nat}{a b:α}(h:i<n):(bif Nat.blt i n then a else b)=a:=by
 have hb:Nat.blt i n=true:=Nat.ble_eq_true_of_le h
 rw[hb,AkQ]
theorem GC {α:Type}{i n:Nat}{a b:α}(h:n<=i):(bif Nat.blt i n then a else b)=b:=by
 have hb:Nat.blt i n=false:=by
  cases hq:Nat.blt i n with
  | true=>have:=Ak7 hq;omega
  | false=>rfl
 rw[hb,AkN]
theorem BQ {α:Type}{f:α->List VV}{d:α}{l r:List α}{F G:Nat->List VV}(h1:∀ i,i<l.length->F i=f (l.getD i d))(h2:∀ i,i<r.length->G i=f (r.getD i d)){i:Nat}(hi:i<(l++r).length) :
  (bif i.blt l.length then F i else G (i - l.length))=f ((l++r).getD i d):=by
 by_cases hl:i<l.length
 ·rw[E8 hl,h1 i hl]
  simp only[Ak2,Ak0 hl]
 ·rw[GC (by omega),h2 _ (by simp at hi;omega)]
  simp only[Ak2,Ak8 (by omega:l.length<=i)]
theorem Hs {x:Int}:∀ i,i<[x].length->(fun i=>List.take 1 (List.drop (i*1) [VV.sc (.int .i64 x)])) i=(fun n=>[Aa n]) ([x].getD i 0):=by
 intro i hi
 obtain rfl:i=0:=by simpa using hi
 rfl
theorem Abf {c:Ctx}{rel:List Nat}{l:List (Nat × VV)}{g n sz:Nat}{F G:Nat->List VV}(h:∀ i,i<n->F i=G i)(k:AB c rel (Aq l [.arr true g n sz G])):AB c rel (Aq l [.arr true g n sz F]) :=
 AB.le (hs:=[.arr true g n sz F]) (hs':=[.arr true g n sz G]) (AV _) ⟨AlB fun i hi=>AQ (h i hi),trivial⟩ k
theorem Q5 {l:D.Loc}(h1:l.Esc.length<=1048576):Aj Tryz.prog 73 [] [.agg (AZ l)] [] (BZ true (DN l)):=by
 refine Ah Al Am Tryz.func73 (by kernel_rfl) rfl (Adf _ l) ⟨by omega,fun i hi=>rfl,trivial,?_⟩
 have e:1+l.Esc.length=(DN l).length:=by simp[DN];omega
 rw[e]
 refine Amg (.inl rfl) fun i hi=>AQ ?_
 refine BQ (l:=[l.Out]) (r:=l.Esc) (f:=fun w=>[Au true w]) (d:=[]) (F:=fun i=>List.take 1 (List.drop (i*1) [Au true l.Out])) (G:=fun i=>[Au true (l.Esc.getD i [])]) (fun i hi=>?_) (fun i hi=>rfl) hi
 obtain rfl:i=0:=by simpa using hi
 rfl
theorem XZ {p:D.Proc}(hp:Kh p):Aj Tryz.prog 50 [] [.agg (Bf p)] [] (Ac (Dk p)):=by
 have h1:=hp.Frame.1
 refine Ah Al Am Tryz.func50 (by kernel_rfl) rfl (Acj _ p) ⟨Fm p.Frame p.Init,fun h=>Pe ?_ h1,AG ?_⟩
 ·simp at h;omega
 ·rw[Alc];simp[Dk];omega
theorem Tx {p:D.Proc}(hp:Kh p):Aj Tryz.prog 52 [] [.agg (Bf p)] [] (Ac (E9 p)):=by
 have h1:=hp.Locs.1
 refine Ah Al Am Tryz.func52 (by kernel_rfl) rfl (VF _ p) ⟨fun h=>AG ?_,fun h=>?_⟩
 ·symm;rw[AlM];intro hc;simp[E9,-List.length_eq_zero_iff]at hc h;omega
 ·have e:E9 p=D4 p.Locs.length fun i=>GX (p.Locs.getD i default):=by
   unfold E9
   have:(decide (p.Frame.length=0)&&decide (p.Params<=0)&&decide (p.Active<=0)&&decide (p.Provided=-1))=true:=by simp at h ⊢;omega
   rw[this,AlI]
  rw[e]
  refine AS Al Am p.Locs.length (fun k=>Kq p k) (fun k=>∀ i,i<k->GX (p.Locs.getD i default)=true) (by kernel_rfl) (by kernel_rfl) (fun i hi=>by omega) ?_
  intro k hk hI J next
  refine Ali (Ty _ p k J) ⟨fun hlt=>?_,fun hge=>AG ?_⟩
  ·have hlt':k<p.Locs.length:=by have:=A3 hlt;omega
   have hto:(k:Int).toNat=k:=by omega
   rw[hto]
   have hpl:∀ l:D.Loc,GX l=!(bif bif decide ((l.Esc.length:Int) > 0) then true else l.Atomic then true else l.Dstep):=by
    intro l
    unfold GX
    cases l.Atomic<;>cases l.Dstep<;>rw[Alc]<;>simp
   refine⟨⟨by omega,by omega⟩,fun hy=>AG ?_,fun hy=>next _ hlt' (fun i hi=>?_) (Up.of ?_)⟩
   ·exact(Dh (f:=fun i=>GX (p.Locs.getD i default)) hlt' (by show GX _=false;rw[hpl,hy]<;>rfl)).symm
   ·rcases Alr.1 hi with h | rfl
    ·exact hI i h
    ·rw[hpl,hy]<;>rfl
   ·rw[An (by omega)]<;>rfl
  ·have hge':p.Locs.length<=k:=by have:=A5 hge;omega
   exact(Bx.2 fun i hi=>hI i (by omega)).symm
theorem XU {p:D.Proc}(hp:Kh p):Aj Tryz.prog 51 [] [.agg (Bf p)] [] (Ac (EE p)):=by
 have h1:=hp.Locs.1
 refine Ah Al Am Tryz.func51 (by kernel_rfl) rfl (Ace _ p) ⟨fun h=>AG ?_,fun h=>?_⟩
 ·symm;rw[AlM];intro hc;simp[EE,inP]at hc h;omega
 ·have e:EE p=JM p.Locs.length p.Final 0 0 p.Locs:=by
   unfold EE
   have:(decide (1<=p.Locs.length)&&decide (p.Locs.length<=256)&&inP p.Locs.length p.Start&&inP p.Locs.length p.Final)=true:=by simp[inP]at h ⊢;omega
   rw[this,AlI]
  rw[e]
  generalize hb:JM p.Locs.length p.Final 0 0 p.Locs=b
  refine Br Al Am (fun g st=>∃ (k many:Nat),k<=p.Locs.length/\g=p.Locs.length - k/\many<=1024/\JM p.Locs.length p.Final many k (p.Locs.drop k)=b/\st=Md p many k) (by kernel_rfl) (by kernel_rfl) ⟨_,Up.of ⟨0,0,AkV _,rfl,by omega,hb,rfl⟩⟩ ?_
  rintro g st ⟨k,many,hk,rfl,hm,hr,rfl⟩
  refine Ali (XX _ p many k _) ⟨fun hlt=>?_,fun hge=>AG ?_⟩
  ·have hlt':k<p.Locs.length:=by have:=A3 hlt;omega
   have hto:(k:Int).toNat=k:=by omega
   rw[hto]
   have hwl:=hp.Locs.2 _ (Aw (d:=default) hlt')
   rw[BN (d:=default) hlt']at hr
   generalize p.Locs.getD k default=l at hwl hr ⊢
   have ho:=hwl.Out.1
   have hes:=hwl.Esc.1
   have hbad:Td p.Final k l=bif bif decide ((l.Esc.length:Int) > 8) then true else bif l.Dstep then l.Atomic else false then true else bif (k:Int)==p.Final then decide (IntKind.i64.wrap ((l.Out.length:Int)+(l.Esc.length:Int)) > 0) else false:=by
    rw[BF (by omega) (by omega)]
    unfold Td
    cases l.Dstep<;>cases l.Atomic<;>rw[Alc]<;>simp<;>omega
   rw[← hbad]
   unfold JM at hr
   refine⟨⟨by omega,by omega⟩,fun hy=>AG ?_,fun hy=>?_⟩
   ·rw[hy,AkQ]at hr;exact hr
   ·rw[hy,AkN]at hr
    refine⟨DN l,Q5 hes,?_⟩
    have hwsl:(DN l).length<=1048577:=by simp[DN];omega
    have hwse:∀ w∈DN l,w.length<=1048576:=by
     intro w hw
     rcases AlC.1 hw with rfl | hw
     ·exact ho
     ·exact(hwl.Esc.2 w hw).1
    generalize DN l=ws at hr hwsl hwse ⊢
    generalize hwo:ID p.Locs.length many 0 ws=wo at hr
    refine Br Al Am (fun g st=>∃ (j mn:Nat),j<=ws.length/\g=ws.length - j/\mn<=1024/\ID p.Locs.length mn j (ws.drop j)=wo/\st=Mc p mn k ws j) (by kernel_rfl) (by kernel_rfl) ⟨_,Up.of ⟨0,many,AkV _,rfl,hm,hwo,rfl⟩⟩ ?_
    rintro g st ⟨j,mn,hj,rfl,hmn,hq,rfl⟩
    refine Ali (XW _ p mn k ws j _ _) ⟨fun hlt2=>?_,fun hge2=>?_⟩
    ·have hlt2':j<ws.length:=by have:=A3 hlt2;omega
     have hto2:(j:Int).toNat=j:=by omega
     rw[hto2]
     have hwle:=hwse _ (Aw (d:=[]) hlt2')
     rw[BN (d:=[]) hlt2']at hq
     generalize ws.getD j []=w at hwle hq ⊢
     unfold ID at hq
     rw[BF (n:=(mn:Int)+_) (by omega) (by omega)]
     have e1:(bif decide ((j:Int) > 0) then(w.length:Int)==0 else false)=(decide (0<j)&&decide (w.length=0)):=by
      rw[Alc];simp
     have e2:decide ((mn:Int)+(w.length:Int) > 1024)=decide (1024<mn+w.length):=by
      rw[Alc];simp;omega
     rw[e1,e2]
     refine⟨⟨by omega,by omega⟩,fun hy1=>AG ?_,fun hy1=>⟨fun hy2=>AG ?_,fun hy2=>?_⟩⟩
     ·rw[hy1,AkQ]at hq;rw[← hq]at hr;exact hr
     ·rw[hy1,AkN,hy2,AkQ]at hq;rw[← hq]at hr;exact hr
     ·rw[hy1,AkN,hy2,AkN]at hq
      have hmn2:mn+w.length<=1024:=by simpa using hy2
      rw[show(mn:Int)+(w.length:Int)=((mn+w.length:Nat):Int) by omega]
      refine AS Al Am w.length (fun h=>Mb p (mn+w.length:Nat) k ws j w h) (fun h=>∀ i,i<h->inP p.Locs.length (w.getD i default).To=true) (by kernel_rfl) (by kernel_rfl) (fun i hi=>by omega) ?_
      intro h3 hh3 hI J3 next
      refine Ali (XV _ p _ k ws j w h3 _ _ J3) ⟨fun hlt3=>?_,fun hge3=>?_⟩
      ·have hlt3':h3<w.length:=by have:=A3 hlt3;omega
       have hto3:(h3:Int).toNat=h3:=by omega
       rw[hto3]
       have hin:inP p.Locs.length (w.getD h3 default).To=!(bif decide ((w.getD h3 default).To<0) then true else decide ((w.getD h3 default).To>=(p.Locs.length:Int))):=by
        unfold inP;rw[Alc];simp
       refine⟨⟨by omega,by omega⟩,fun hy=>AG ?_,fun hy=>next _ hlt3' (fun i hi=>?_) (Up.of ?_)⟩
       ·have:=Dh (n:=w.length) (f:=fun i=>inP p.Locs.length (w.getD i default).To) hlt3' (by show inP _ _=false;rw[hin,hy]<;>rfl)
        rw[this,AkN]at hq;rw[← hq]at hr;exact hr
       ·rcases Alr.1 hi with h | rfl
        ·exact hI i h
        ·rw[hin,hy]<;>rfl
       ·rw[An (by omega)]<;>rfl
      ·have hge3':w.length<=h3:=by have:=A5 hge3;omega
       have:=(Bx (n:=w.length) (f:=fun i=>inP p.Locs.length (w.getD i default).To)).2 fun i hi=>hI i (by omega)
       rw[this,AkQ]at hq
       rw[An (by omega)]
       exact⟨ws.length - (j+1),by omega,Up.of ⟨j+1,mn+w.length,by omega,rfl,hmn2,hq,rfl⟩⟩
    ·have hge2':ws.length<=j:=by have:=A5 hge2;omega
     rw[Ame hge2']at hq
     unfold ID at hq
     rw[← hq]at hr
     rw[An (by omega)]
     exact⟨p.Locs.length - (k+1),by omega,Up.of ⟨k+1,mn,by omega,rfl,hmn,hr,rfl⟩⟩
  ·have hge':p.Locs.length<=k:=by have:=A5 hge;omega
   rw[Ame hge']at hr
   exact hr
theorem Pm (t:ByteArray):(t.toList==(⟨#[]⟩:ByteArray).toList)=decide (t.size=0):=by
 rw[ByteArray.toList_eq,ByteArray.toList_eq,Alc,beq_iff_eq,AkS]
 show t.data.toList=[] ↔ t.data.size=0
 rw[← AlO,List.length_eq_zero_iff]
theorem Yd {s:D.Stmt}{u v x:Bool}(h1:s.Args.length<=1048576)(h2:s.Match.length<=1048576):Aj Tryz.prog 150 [] [.agg (Ar s),Ac u,Ac v,Ac x] [] (Ac (FF s u v x)):=by
 refine Ah Al Am Tryz.func150 (by kernel_rfl) rfl (AcB _ s u v x) (AG ?_)
 rw[BF (by omega) (by omega),Pm]
 unfold FF
 have e1:((s.Args.length:Int)+(s.Match.length:Int)==0)=decide (s.Args.length+s.Match.length=0):=by rw[Alc,beq_iff_eq,AkS];omega
 have e2:(s.N==0)=decide (s.N=0):=by rw[Alc,beq_iff_eq,AkS]
 rw[e1,e2]
 generalize decide (s.Args.length+s.Match.length=0)=b1
 generalize decide (s.N=0)=b2
 generalize decide (s.Text.size=0)=b3
 cases u<;>cases v<;>cases x<;>cases b1<;>cases b2<;>cases b3<;>rfl
theorem Fx (m:D.Model)(a:Int):Aj Tryz.prog 149 [] [tpM m,Aa a] [] (Ac (EC m a)) :=
 Ah Al Am Tryz.func149 (by kernel_rfl) rfl (AbF _ m a) ⟨inP m.Exprs.length a,Nu,AG rfl⟩
theorem Jt (m:D.Model)(a:Int):Aj Tryz.prog 151 [] [tpM m,Aa a] [] (Ac (CU m a)):=by
 have hin:∀ y:Bool,y=EC m a->y=true->0<=a/\a<m.Exprs.length:=fun y hy h=>CF.1 (by rw[hy]at h;exact h)
 refine Ah Al Am Tryz.func151 (by kernel_rfl) rfl (WJ _ m a) ⟨EC m a,Fx m a,fun h=>hin _ rfl (by simpa using h),fun h=>hin _ rfl ?_,AG ?_⟩
 ·cases hq:EC m a with
  | true=>rfl
  | false=>rw[hq]at h;simp at h
 ·unfold CU Ax
  cases EC m a
  ·rfl
  ·rw[Alc];simp
theorem WK {m:D.Model}{s:D.Stmt}(h1:s.Args.length<=1048576)(h2:s.Match.length<=1048576):Aj Tryz.prog 152 [] [tpM m,.agg (Ar s)] [] (Ac (IG m s)):=by
 refine Ah Al Am Tryz.func152 (by kernel_rfl) rfl (AaH _ m s) ⟨Cx m m.Exprs.length s.Args s.Match,My (Ama _) h1 h2,fun h=>AG ?_,fun h=>?_⟩
 ·have h':Cx m m.Exprs.length s.Args s.Match=false:=by simpa using h
  unfold IG;rw[h',Bool.false_and]
 ·have h':Cx m m.Exprs.length s.Args s.Match=true:=by simpa using h
  have hlen:s.Match.length=s.Args.length:=by
   unfold Cx at h'
   simp only[AkO,AkS]at h'
   exact h'.1.1.2
  have e:IG m s=D4 s.Match.length fun i=>!decide (s.Match.getD i 0=0)||CU m (s.Args.getD i 0):=by unfold IG;rw[h',AlI]
  rw[e]
  refine AS Al Am s.Match.length (fun k=>On m s k) (fun k=>∀ i,i<k->(!decide (s.Match.getD i 0=0)||CU m (s.Args.getD i 0))=true) (by kernel_rfl) (by kernel_rfl) (fun i hi=>by omega) ?_
  intro k hk hI J next
  refine Ali (WL _ m s k J) ⟨fun hlt=>?_,fun hge=>AG ?_⟩
  ·have hlt':k<s.Match.length:=by have:=A3 hlt;omega
   have hto:(k:Int).toNat=k:=by omega
   rw[hto]
   have hm:(!decide (s.Match.getD k 0=0)||CU m (s.Args.getD k 0))=!(bif s.Match.getD k 0==0 then !(CU m (s.Args.getD k 0)) else false):=by
    generalize s.Match.getD k 0=z
    cases CU m (s.Args.getD k 0)
    ·rw[Alc];simp
    ·simp
   refine⟨⟨by omega,by omega⟩,fun _=>⟨by omega,by omega⟩,CU m (s.Args.getD k 0),fun _=>Jt _ _,fun hy=>AG ?_,fun hy=>next _ hlt' (fun i hi=>?_) (Up.of ?_)⟩
   ·exact(Dh (f:=fun i=>!decide (s.Match.getD i 0=0)||CU m (s.Args.getD i 0)) hlt' (by show(!decide (s.Match.getD k 0=0)||CU m (s.Args.getD k 0))=false;rw[hm,hy]<;>rfl)).symm
   ·rcases Alr.1 hi with h | rfl
    ·exact hI i h
    ·rw[hm,hy]<;>rfl
   ·rw[An (by omega)]<;>rfl
  ·have hge':s.Match.length<=k:=by have:=A5 hge;omega
   exact(Bx.2 fun i hi=>hI i (by omega)).symm
theorem PC {m:D.Model}{i:Int}{v:D.Var}(h1:v.Scope=1->0<=i/\i<m.Procs.length)(h2:v.Scope≠0->v.Scope≠1->0<=v.Type_/\v.Type_<m.Procs.length):Aj Tryz.prog 117 [] [tpM m,Aa i,.agg (Ct v)] [] (Aa (M1 m i v)):=by
 refine Ah Al Am Tryz.func117 (by kernel_rfl) rfl (AaY _ m i v) ⟨fun h=>C4 ?_,fun h=>⟨fun k=>⟨h1 (by simpa using k),C4 ?_⟩,fun k=>⟨h2 (by simpa using h) (by simpa using k),C4 ?_⟩⟩⟩
 ·unfold M1;rw[Alj (by simpa using h)]
 ·unfold M1;rw[Ak3 (by simpa using h),Alj (by simpa using k)]
 ·unfold M1;rw[Ak3 (by simpa using h),Ak3 (by simpa using k)]
def leS (x y:VV):Prop:=∀ (w:World) (E:AF) (m:Option Phi) (v:Value),(∀ k,E.br k->E.fz k)->V w E m x v->V w E m y v
theorem Dv (x:VV):leS x x:=fun _ _ _ _ _ h=>h
theorem P9 {n sz:Nat}{f:Nat->List VV}:leS (.sl true n sz f) (.sl false n sz f):=by
 intro w E m v hE h
 obtain⟨a,cap,rfl,h1,h2,h3⟩:=V.sl_inv h
 refine AmF h1 h2 fun hp=>?_
 obtain⟨b,off,rfl,hb,hn,hl,u,hc,hv⟩:=h3 hp
 exact⟨b,off,rfl,hb,fun hbr=>hn (hE b hbr),hl,u,hc,fun i j x hi hx=>(hv i j x hi hx).less (fun _ h=>h) fun _ _=>trivial⟩
theorem Aj.frz {P:Program}{f:FuncId}{hs hs':List Ob}{xs ys:List VV}{r:VV}(h:Aj P f hs xs hs' r)(hl:ys.length=xs.length)(hle:∀ (j:Nat) x y,xs[j]?=some x->ys[j]?=some y->leS y x):Aj P f hs ys hs' r:=by
 refine⟨h.callable,fun w E φ vs hz hH hφ hs0=>h.call w E φ vs hz hH hφ ⟨hs0.1.trans hl,fun j x hx=>?_⟩⟩
 have hj:j<ys.length:=by rw[hl];exact(AkR.1 hx).1
 exact hle j x _ hx (Ak1 hj) _ _ _ _ (fun k hk=>hk.imp (hH.sub k) fun h=>h) (hs0.2 j _ (Ak1 hj))
theorem ieq (a b:Int):(a==b)=decide (a=b):=by rw[Alc,beq_iff_eq,AkS]
theorem A8 (a b:Bool):(bif a then b else false)=(a&&b):=by cases a<;>rfl
theorem A7 (a b:Bool):(bif a then true else b)=(a||b):=by cases a<;>rfl
theorem nge (n k:Nat):decide ((n:Int)>=k)=decide (k<=n):=by rw[Alc,AkS,AkS];omega
theorem nle (n k:Nat):decide ((n:Int)<=k)=decide (n<=k):=by rw[Alc,AkS,AkS];omega
theorem ge1 (n:Nat):decide ((n:Int)>=1)=decide (1<=n):=nge n 1
theorem le8 (n:Nat):decide ((n:Int)<=8)=decide (n<=8):=nle n 8
theorem Aki (n:Nat):decide ((n:Int)<=256)=decide (n<=256):=nle n 256
theorem Aj9 (n:Nat):decide ((n:Int)=0)=decide (n=0):=by rw[Alc,AkS,AkS];omega
structure Yr (s:D.Stmt):Prop where
 a:s.Args.length<=1048576
 m:s.Match.length<=1048576
theorem Ps {m:D.Model}{s:D.Stmt}(hs:Yr s):Aj Tryz.prog 115 [] [tpM m,.agg (Ar s)] [] (Ac (AN m s)):=by
 have ha:=hs.a
 have hb:=hs.m
 have em:∀ u v x:Bool,Aj Tryz.prog 150 [] [.agg (Ar s),Ac u,Ac v,Ac x] [] (Ac (FF s u v x)):=fun u v x=>Yd ha hb
 have n1:∀ x:Bool,(bif x then s.B==(-1:Int) else false)=(x&&decide (s.B=-1)):=fun x=>by rw[ieq,A8]
 have hkn:∀ {k:Int},(s.Kind==k)=true->s.Kind=k:=fun h=>by simpa using h
 have hkf:∀ {k:Int},(s.Kind==k)=false->s.Kind≠k:=fun h=>by simpa using h
 refine Ah Al Am Tryz.func115 (by kernel_rfl) rfl (QS _ m s) ?_
 have t13:s.Kind=1∨s.Kind=3->AN m s=(EC m s.A&&decide (s.B=-1)&&FF s true true true):=fun h=>by unfold AN;rw[Alj h]
 have t2:s.Kind=2->AN m s=(CU m s.A&&EC m s.B&&FF s true true true):=fun h=>by unfold AN;rw[Ak3 (by omega),Alj h]
 have t4:s.Kind=4->AN m s=(decide (s.A=-1)&&decide (s.B=-1)&&Da m.Exprs.length s.Args&&decide (s.Match.length=0)&&decide (s.Text.size<=256)&&decide (s.N=0)):=fun h=>by unfold AN;rw[Ak3 (by omega),Ak3 (by omega),Alj h]
 have t5:s.Kind=5->AN m s=(EC m s.A&&decide (s.B=-1)&&decide (1<=s.Args.length)&&decide (s.Args.length<=8)&&Da m.Exprs.length s.Args&&decide (s.Match.length=0)&&(decide (s.N=0)||decide (s.N=1))&&decide (s.Text.size=0)):=fun h=>by unfold AN;rw[Ak3 (by omega),Ak3 (by omega),Ak3 (by omega),Alj h]
 have t6:s.Kind=6->AN m s=(EC m s.A&&decide (s.B=-1)&&IG m s&&decide (0<=s.N)&&decide (s.N<=3)&&decide (s.Text.size=0)):=fun h=>by unfold AN;rw[Ak3 (by omega),Ak3 (by omega),Ak3 (by omega),Ak3 (by omega),Alj h]
 have t7:s.Kind=7∨s.Kind=8->AN m s=(decide (s.A=-1)&&decide (s.B=-1)&&FF s true true true):=fun h=>by unfold AN;rw[Ak3 (by omega),Ak3 (by omega),Ak3 (by omega),Ak3 (by omega),Ak3 (by omega),Alj h]
 have t9:s.Kind=9->AN m s=(CU m s.A&&decide (s.B=-1)&&decide (0<=s.N)&&decide (s.N<m.Shapes.length)&&FF s true false true):=fun h=>by unfold AN;rw[Ak3 (by omega),Ak3 (by omega),Ak3 (by omega),Ak3 (by omega),Ak3 (by omega),Ak3 (by omega),Alj h]
 have tx:¬(s.Kind=1∨s.Kind=3)->s.Kind≠2->s.Kind≠4->s.Kind≠5->s.Kind≠6->¬(s.Kind=7∨s.Kind=8)->s.Kind≠9->AN m s=false:=fun h1 h2 h3 h4 h5 h6 h7=>by unfold AN;rw[Ak3 h1,Ak3 h2,Ak3 h3,Ak3 h4,Ak3 h5,Ak3 h6,Ak3 h7]
 generalize AN m s=b at t13 t2 t4 t5 t6 t7 t9 tx ⊢
 exact⟨fun h1=>⟨fun _=>⟨_,Fx m s.A,_,fun _=>em true true true,AG (by rw[t13 (.inl (hkn h1)),n1,A8])⟩,fun h=>bt h1 h⟩,fun h1=>⟨fun h3=>⟨_,Fx m s.A,_,fun _=>em true true true,AG (by rw[t13 (.inr (hkn h3)),n1,A8])⟩,fun h3=>⟨fun h2=>⟨_,Jt m s.A,_,fun _=>Fx m s.B,_,fun _=>em true true true,AG (by rw[t2 (hkn h2),A8,A8])⟩,fun h2=>⟨fun h4=>⟨_,fun _=>FI (by omega),AG (by rw[t4 (hkn h4)];simp only[ieq,A8,Aj9,Aki])⟩,fun h4=>⟨fun h5=>⟨_,Fx m s.A,_,fun _=>FI (by omega),AG (by rw[t5 (hkn h5)];simp only[ieq,A8,A7,Aj9,Pm,le8,ge1])⟩,fun h5=>⟨fun h6=>⟨_,Fx m s.A,_,fun _=>WK ha hb,AG (by rw[t6 (hkn h6)];simp only[ieq,A8,Pm,Amk])⟩,fun h6=>⟨fun h7=>⟨fun _=>⟨_,fun _=>em true true true,AG (by rw[t7 (.inl (hkn h7))];simp only[ieq,A8])⟩,fun h=>bt h7 h⟩,fun h7=>⟨fun h8=>⟨_,fun _=>em true true true,AG (by rw[t7 (.inr (hkn h8))];simp only[ieq,A8])⟩,fun h8=>⟨fun h9=>⟨_,Jt m s.A,_,fun _=>em true false true,AG (by rw[t9 (hkn h9)];simp only[ieq,A8,Amk])⟩,fun h9=>AG (tx (fun h=>h.elim (hkf h1) (hkf h3)) (hkf h2) (hkf h4) (hkf h5) (hkf h6) (fun h=>h.elim (hkf h7) (hkf h8)) (hkf h9)).symm⟩⟩⟩⟩⟩⟩⟩⟩⟩
theorem Ir {x:D.Expr}(h1:x.Args.length<=1048576)(h2:x.V.Dims.length<=1048576):Aj Tryz.prog 72 [] [.agg (AT x)] [] (Ad true (Ck x)):=by
 have hp3:=UR x.Op
 have hP:([x.A,x.B,x.C].take (Bh x.Op)).length=Bh x.Op:=by simp;omega
 have hrow:∀ i,i<([x.A,x.B,x.C].take (Bh x.Op)).length->List.take 1 (List.drop (i*1) [VV.sc (.int .i64 x.A),.sc (.int .i64 x.B),.sc (.int .i64 x.C)])=[Aa (([x.A,x.B,x.C].take (Bh x.Op)).getD i 0)]:=by
  intro i hi
  rw[hP]at hi
  have:([x.A,x.B,x.C].take (Bh x.Op)).getD i 0=[x.A,x.B,x.C].getD i 0:=by simp only[Ak2,AlS,hi,if_true]
  rw[this]
  rcases(show i=0∨i=1∨i=2 by omega) with rfl | rfl | rfl<;>rfl
 have hto:((Bh x.Op:Nat):Int).toNat=Bh x.Op:=by omega
 have loop:∀ (L:List Int),L.length<=2097152->L++x.V.Dims.map D.Dim.I=Ck x->AB (CR Tryz.prog tb Bk Hj true Tryz.f72 [] (Ad true (Ck x))) [1,1,1,0,1,0,1,1,0] (WZ x L 0):=by
  intro L hL hR
  generalize Ck x=R at hR ⊢
  refine AS Al Am x.V.Dims.length (fun k=>WZ x (L++(x.V.Dims.take k).map D.Dim.I) k) (fun _=>True) (by kernel_rfl) (by kernel_rfl) trivial ?_ |> fun h=>by simpa using h
  intro k hk _ J next
  have hlen:(L++(x.V.Dims.take k).map D.Dim.I).length=L.length+k:=by simp;omega
  refine Ali (Acb _ x _ k J) ⟨fun hlt=>?_,fun hge=>⟨trivial,?_⟩⟩
  ·have hlt':k<x.V.Dims.length:=by have:=A3 hlt;omega
   have hto:(k:Int).toNat=k:=by omega
   rw[hto]
   refine⟨⟨by omega,by omega⟩,by rw[hlen];omega,next _ hlt' trivial ?_⟩
   have hpush:(x.V.Dims.take (k+1)).map D.Dim.I=(x.V.Dims.take k).map D.Dim.I++[(x.V.Dims.getD k default).I]:=by rw[Ie (d:=default) hlt'];simp
   have e:L++(x.V.Dims.take (k+1)).map D.Dim.I=(L++(x.V.Dims.take k).map D.Dim.I)++[(x.V.Dims.getD k default).I]:=by rw[hpush,AlF]
   rw[e,An (by omega)]
   generalize L++(x.V.Dims.take k).map D.Dim.I=M
   generalize (x.V.Dims.getD k default).I=z
   refine Up.mk (l':=[(3,.ow 0 0 (M++[z]).length),(45,Df true x.V.Dims),(46,Aa x.V.Dims.length),(47,Aa ((k+1:Nat):Int))]) (hs':=[.arr true 0 (M++[z]).length 1 (AE (M++[z]))]) ?_ ?_ rfl
   ·rw[show M.length+1=(M++[z]).length by simp];exact AV _
   ·rw[show M.length+1=(M++[z]).length by simp]
    exact⟨AlB fun i hi=>AQ (BQ (f:=fun n=>[Aa n]) (d:=0) (l:=M) (r:=[z]) (F:=fun i=>[.sc (.int .i64 (M.getD i 0))]) (fun i hi=>rfl) Hs hi),trivial⟩
  ·have hge':x.V.Dims.length<=k:=by have:=A5 hge;omega
   rw[AmO hge',hR]
   exact VV.le_refl _
 refine Ah Al Am Tryz.func72 (by kernel_rfl) rfl (AeW _ x) ⟨(Bh x.Op:Nat),ED _,?_⟩
 rw[hto]
 have hpp:Bh x.Op=([x.A,x.B,x.C].take (Bh x.Op)).length:=hP.symm
 generalize hLp:[x.A,x.B,x.C].take (Bh x.Op)=P at hrow hpp loop
 have hheld:Ck x=P++((if x.Op=30∨x.Op=39 then x.Args else[])++(if x.Op=2 then(if x.V.Scope=2 then[x.V.Who] else[])++x.V.Dims.map D.Dim.I else[])):=by unfold Ck;rw[hLp]
 generalize Ck x=R at hheld loop ⊢
 rw[hpp]at hp3 ⊢
 refine⟨⟨by omega,by omega⟩,by omega,fun h=>⟨by omega,fun i hi=>rfl,fun k=>?_,fun k=>⟨trivial,?_⟩⟩,fun h=>⟨fun k=>⟨fun q=>⟨by omega,?_⟩,fun q=>?_⟩,fun k=>⟨trivial,?_⟩⟩⟩
 ·simp at h k;omega
 ·have e:R=P++x.Args:=by rw[hheld,Alj (by simpa using h),Ak3 (by simpa using k)];simp
  subst e
  rw[show P.length+x.Args.length=(P++x.Args).length by simp]
  exact Amg (.inl rfl) fun i hi=>AQ (BQ (f:=fun n=>[Aa n]) (d:=0) (l:=P) (r:=x.Args) (G:=fun j=>[.sc (.int .i64 (x.Args.getD j 0))]) hrow (fun i hi=>rfl) hi)
 ·have h':¬(x.Op=30∨x.Op=39):=by simpa using h
  have e:(P++[x.V.Who])++x.V.Dims.map D.Dim.I=R:=by rw[hheld,Ak3 h',Alj (by simpa using k),Alj (by simpa using q)];simp
  refine AB.le (l':=[(3,.ow 0 0 (P++[x.V.Who]).length),(45,Df true x.V.Dims),(46,Aa x.V.Dims.length),(47,Aa 0)]) (hs':=[.arr true 0 (P++[x.V.Who]).length 1 (AE (P++[x.V.Who]))]) ?_ ?_ (loop _ (by simp;omega) e)
  ·rw[show P.length+1=(P++[x.V.Who]).length by simp];exact AV _
  ·rw[show P.length+1=(P++[x.V.Who]).length by simp]
   exact⟨AlB fun i hi=>AQ (BQ (f:=fun n=>[Aa n]) (d:=0) (l:=P) (r:=[x.V.Who]) hrow Hs hi),trivial⟩
 ·have h':¬(x.Op=30∨x.Op=39):=by simpa using h
  have e:P++x.V.Dims.map D.Dim.I=R:=by rw[hheld,Ak3 h',Alj (by simpa using k),Ak3 (by simpa using q)];simp
  exact Abf (G:=AE P) (fun i hi=>hrow i hi) (loop _ (by omega) e)
 ·have h':¬(x.Op=30∨x.Op=39):=by simpa using h
  have e:R=P:=by rw[hheld,Ak3 h',Ak3 (by simpa using k)];simp
  subst e
  exact Amg (.inl rfl) fun i hi=>AQ (hrow i hi)
structure Hx (m:D.Model):Prop where
 wf:Av m
 ex:∀ k:Nat,k<m.Exprs.length->EP m k=true
def InE (m:D.Model)(l:List Int):Prop:=∀ x∈l,0<=x/\x<m.Exprs.length
theorem Vv {m:D.Model}{k:Int}(h0:0<=k)(h:k<m.Exprs.length):Ax m k∈m.Exprs:=Aw (by omega)
theorem Hx.at {m:D.Model}(h:Hx m){k:Int}(h0:0<=k)(hk:k<m.Exprs.length):EP m k=true:=by
 have:=h.ex k.toNat (by omega)
 rwa [show((k.toNat:Nat):Int)=k by omega]at this
theorem Hx.held {m:D.Model}(h:Hx m){k:Int}(h0:0<=k)(hk:k<m.Exprs.length):InE m (Ck (Ax m k)):=fun x hx=>by
 have:=Zy (h.at h0 hk) x hx;omega
theorem Hx.small {m:D.Model}(h:Hx m):∀ x∈m.Exprs,x.Args.length<=1048576/\x.V.Dims.length<=1048576:=fun x hx =>
 ⟨(h.wf.Exprs.2 x hx).Args.1,(h.wf.Exprs.2 x hx).V.Dims.1⟩
theorem Hx.slots {m:D.Model}(h:Hx m){k:Int}(h0:0<=k)(hk:k<m.Exprs.length)(h2:(Ax m k).Op=2):(Ax m k).V.Scope≠0->(Ax m k).V.Scope≠1->0<=(Ax m k).V.Type_/\(Ax m k).V.Type_<m.Procs.length:=by
 have hx:=h.at h0 hk
 unfold EP at hx
 simp only[AkO]at hx
 obtain⟨_,hO⟩:=hx
 generalize Ax m k=x at *
 rw[Ak3 (by omega),Alj h2]at hO
 simp only[AkO,EJ]at hO
 obtain⟨⟨⟨⟨⟨⟨hs0,hs2⟩,_⟩,_⟩,_⟩,hW⟩,_⟩:=hO
 intro n0 n1
 have hs:x.V.Scope=2:=by simp at hs0 hs2;omega
 simp only[hs,decide_true,AkQ,AkO]at hW
 have:=hW.2
 unfold D0 at this
 simp at this;omega
structure Inv (m:D.Model) (i run:Int) (n:Nat) (b:Bool) (seen:List Bool) (todo:List Int) (k:Nat):Prop where
 sl:seen.length=m.Exprs.length
 le:k<=todo.length
 mem:InE m todo
 sum:todo.length+load m seen=n
 res:Pc m i run (todo.length - k+load m seen+1) seen (todo.drop k)=b
section
variable {m : D.Model} {i run:Int} {n:Nat} {b:Bool} {seen:List Bool} {todo:List Int} {k:Nat}
theorem Inv.at (h:Inv m i run n b seen todo k)(hk:k<todo.length):0<=todo.getD k 0/\todo.getD k 0<m.Exprs.length:=h.mem _ (Aw hk)
theorem Inv.step (h:Inv m i run n b seen todo k)(hk:k<todo.length) :
  (bif seen.getD (todo.getD k 0).toNat false then Pc m i run (todo.length - (k+1)+load m seen+1) seen (todo.drop (k+1)) else bif Gc m i run (todo.getD k 0) then false
   else Pc m i run (todo.length - (k+1)+load m seen+1) (seen.set (todo.getD k 0).toNat true) (todo.drop (k+1)++Ck (Ax m (todo.getD k 0))))=b:=by
 have:=h.res
 rw[BN (d:=0) hk,show todo.length - k+load m seen+1=(todo.length - (k+1)+load m seen+1)+1 by omega]at this
 exact this
theorem Inv.had (h:Inv m i run n b seen todo k)(hk:k<todo.length)(hs:seen.getD (todo.getD k 0).toNat false=true):Inv m i run n b seen todo (k+1):=by
 have:=h.step hk
 rw[hs,AkQ]at this
 exact⟨h.sl,hk,h.mem,h.sum,this⟩
theorem Inv.bad (h:Inv m i run n b seen todo k)(hk:k<todo.length)(hs:seen.getD (todo.getD k 0).toNat false=false)(hu:Gc m i run (todo.getD k 0)=true):false=b:=by
 have:=h.step hk
 rw[hs,AkN,hu,AkQ]at this
 exact this
theorem Inv.more (hr:Hx m)(h:Inv m i run n b seen todo k)(hk:k<todo.length)(hs:seen.getD (todo.getD k 0).toNat false=false)(hu:Gc m i run (todo.getD k 0)=false) :
  Inv m i run n b (seen.set (todo.getD k 0).toNat true) (todo++Ck (Ax m (todo.getD k 0))) (k+1):=by
 have ht:=h.at hk
 have hl:=AeG (m:=m) hs (by rw[h.sl];omega) h.sl
 have:=h.step hk
 rw[hs,AkN,hu,AkN]at this
 have hsum:=h.sum
 have hx:m.Exprs.getD (todo.getD k 0).toNat default=Ax m (todo.getD k 0):=rfl
 rw[hx]at hl
 refine⟨by simp[h.sl],by simp;omega,fun x hxm=>?_,by rw[Ak4];omega,?_⟩
 ·rcases Als.1 hxm with hxm | hxm
  ·exact h.mem x hxm
  ·exact hr.held ht.1 ht.2 x hxm
 ·rw[List.drop_append_of_le_length hk,Ak4]
  rw[show todo.length+(Ck (Ax m (todo.getD k 0))).length - (k+1)+load m (seen.set (todo.getD k 0).toNat true)+1=todo.length - (k+1)+load m seen+1 by omega]
  exact this
end
theorem Re (m:D.Model)(i run k:Int):Gc m i run k=((bif bif (Ax m k).Op==39 then k != run else false then true else bif i==m.Claim then bif bif (Ax m k).Op==31 then true else(Ax m k).Op==39 then true else bif (Ax m k).Op==2 then(Ax m k).V.Scope==1 else false else false) ||
  ((Ax m k).Op==2&&decide (M1 m i (Ax m k).V<Ew (Ax m k).V))):=by
 unfold Gc
 simp only[ieq,A8,A7,bne,AlX,decide_not]
theorem SM {l:List Bool}{t j:Nat}(hj:j<l.length):(bif j.beq t then[VV.sc (.bool true)] else[.sc (.bool (l.getD j false))])=[Ac ((l.set t true).getD j false)]:=by
 cases hq:j.beq t with
 | true =>
  have:=AkT hq;subst this
  simp[List.getD,hj,Ac]
 | false =>
  have hne:t≠j:=by rintro rfl;simp at hq
  simp[List.getD,hne,Ac]
theorem ZN {l r:List Int}{F:Nat->List VV}(hF:∀ i,i<l.length->F i=[Aa (l.getD i 0)]){i:Nat}(hi:i<(l++r).length):(bif i.blt l.length then F i else(fun j=>[Aa (r.getD j 0)]) (i - l.length))=AE (l++r) i :=
 BQ (f:=fun n=>[Aa n]) (d:=0) (l:=l) (r:=r) (G:=fun j=>[Aa (r.getD j 0)]) hF (fun _ _=>rfl) hi
theorem Aay {m:D.Model}{i run:Int}{list:List Int}(hr:Hx m)(hi0:0<=i)(hi:i<m.Procs.length)(hin:InE m list)(hlen:list.length<=2097152) :
  Aj Tryz.prog 75 [] [tpM m,Aa i,Ad false list,Aa run] [] (Ac (Jq m i list run)):=by
 have hN:=hr.wf.Exprs.1
 have hload:=AgX hr.small (Bi m)
 have hmul:m.Exprs.length*2097156<=1048576*2097156:=Ala _ hN
 generalize hb:Jq m i list run=b
 have inv0:Inv m i run (list.length+load m (Bi m)) b (Bi m) list 0:=⟨by simp[Bi],AkV _,hin,rfl,by rw[← hb]<;>rfl⟩
 generalize hn:list.length+load m (Bi m)=n at inv0
 have hn2:n<=4398046511104:=by omega
 have small:∀ {t:Int},0<=t->t<m.Exprs.length->(Ax m t).Args.length<=1048576/\(Ax m t).V.Dims.length<=1048576:=fun h0 h1=>hr.small _ (Vv h0 h1)
 have wfv:∀ {t:Int},0<=t->t<m.Exprs.length->Ld (Ax m t).V:=fun h0 h1=>(hr.wf.Exprs.2 _ (Vv h0 h1)).V
 refine Ah Al Am Tryz.func75 (by kernel_rfl) rfl (Ads _ m i list run) ?_
 refine Abb Al Am 0 (fun g st=>∃ (seen:List Bool) (todo:List Int) (k:Nat),Inv m i run n b seen todo k/\g=todo.length - k+load m seen/\st=Pw m i list run seen todo k) (by kernel_rfl) (by kernel_rfl) (by kernel_rfl) (by kernel_rfl) (Ali (AaA _ m i list run _) ?_) fun g st h=>?_
 ·have hnn:((m.Exprs.length:Int).toNat)=m.Exprs.length:=by omega
  rw[hnn]
  have hto:Int.toNat 0=0:=rfl
  have hz:∀ j,j<m.Exprs.length->(Bi m).getD j false=false:=fun j hj=>by simp[Bi,List.getD,hj]
  have hsl:(Bi m).length=m.Exprs.length:=by simp[Bi]
  refine⟨⟨by omega,by omega,by omega⟩,by omega,fun _ _=>rfl,fun h=>AG ?_,fun h=>?_⟩
  ·have h0:list.length=0:=by simp at h;omega
   have:=inv0.res
   rw[Alp h0]at this
   rw[← this]<;>rfl
  ·have h0:0<list.length:=by simp at h;omega
   have ht:=inv0.at h0
   rw[hto]
   have hs:=hz (list.getD 0 0).toNat (by omega)
   have hbad:=Re m i run (list.getD 0 0)
   have more:=fun hu=>inv0.more hr h0 hs hu
   have bad:=fun hu=>inv0.bad h0 hs hu
   have hsm:=small ht.1 ht.2
   have hwv:=wfv ht.1 ht.2
   have hsum:=inv0.sum
   have hsl2:=hr.slots ht.1 ht.2
   refine⟨⟨by omega,by omega⟩,⟨by omega,by omega⟩,fun h=>(by cases h),fun _=>⟨⟨by omega,by omega⟩,⟨by omega,by omega⟩,fun hc=>AG (bad (by rw[hbad,AlV];exact .inl hc)),fun hc=>?_⟩⟩
   have fin:Gc m i run (list.getD 0 0)=false->(list.length+(Ck (Ax m (list.getD 0 0))).length)*8<=140737488355328/\∃ g,Up (fun st=>∃ (seen:List Bool) (todo:List Int) (k:Nat),Inv m i run n b seen todo k/\g=todo.length - k+load m seen/\st=Pw m i list run seen todo k)
     (Aq [(0,tpM m),(1,Aa i),(2,Ad false list),(3,Aa run),(9,.ow 0 0 m.Exprs.length),(10,.ow 1 0 (list.length+(Ck (Ax m (list.getD 0 0))).length)),(11,Aa (IntKind.i64.wrap (0+1)))]
      [.arr true 0 m.Exprs.length 1 (fun j=>bif j.beq (list.getD 0 0).toNat then[.sc (.bool true)] else[.sc (.bool false)]),.arr true 0 (list.length+(Ck (Ax m (list.getD 0 0))).length) 1 (fun j=>bif j.blt list.length then(fun j=>[Aa (list.getD j 0)]) j else(fun j=>[Aa ((Ck (Ax m (list.getD 0 0))).getD j 0)]) (j - list.length))]):=by
    intro hu
    have hm:=more hu
    have hm2:=hm.sum
    generalize Ck (Ax m (list.getD 0 0))=H at hm hm2 ⊢
    generalize (list.getD 0 0).toNat=t at hm hm2 ⊢
    rw[Ak4]at hm2
    refine⟨by omega,(list++H).length - (0+1)+load m ((Bi m).set t true),?_⟩
    have hw1:IntKind.i64.wrap (0+1)=((1:Nat):Int):=rfl
    have hnl:m.Exprs.length=((Bi m).set t true).length:=by simp[Bi]
    refine Up.mk (l':=[(0,tpM m),(1,Aa i),(2,Ad false list),(3,Aa run),(9,.ow 0 0 ((Bi m).set t true).length),(10,.ow 1 0 (list++H).length),(11,Aa ((1:Nat):Int))])
     (hs':=[.arr true 0 ((Bi m).set t true).length 1 (H4 ((Bi m).set t true)),.arr true 0 (list++H).length 1 (AE (list++H))]) ?_ ?_ ⟨_,_,_,hm,rfl,rfl⟩
    ·rw[hw1,← hnl,Ak4];exact AV _
    ·rw[← hnl,← Ak4]
     refine⟨AlB fun j hj=>AQ ?_,AlB fun j hj=>AQ (ZN (fun i hi=>rfl) hj),trivial⟩
     have:=SM (l:=Bi m) (t:=t) (j:=j) (by omega)
     rw[hz j hj]at this
     exact this
   refine⟨fun h2=>⟨_,GW hwv,_,PC (fun _=>⟨hi0,hi⟩) (hsl2 (eq_of_beq h2)),fun h3=>AG (bad ?_),fun h3=>?_⟩,fun h2=>?_⟩
   ·rw[hbad,AlV,AkO];exact .inr ⟨h2,h3⟩
   ·have hu:Gc m i run (list.getD 0 0)=false:=by
     rw[hbad,Ald,Amx];exact⟨hc,.inr h3⟩
    obtain⟨f1,f2⟩:=fin hu
    exact⟨Ck (Ax m (list.getD 0 0)),Ir hsm.1 hsm.2,f1,fun i hi=>rfl,f2⟩
   ·have hu:Gc m i run (list.getD 0 0)=false:=by
     rw[hbad,Ald,Amx];exact⟨hc,.inl h2⟩
    obtain⟨f1,f2⟩:=fin hu
    exact⟨Ck (Ax m (list.getD 0 0)),Ir hsm.1 hsm.2,f1,fun i hi=>rfl,f2⟩
 ·obtain⟨seen,todo,k,inv,rfl,rfl⟩:=h
  refine Ali (Aaz _ m i list run seen todo k _) ⟨fun h=>AG ?_,fun h=>?_⟩
  ·have h0:k=todo.length:=by simp at h;omega
   have:=inv.res
   rw[Ame (by omega)]at this
   rw[← this,Pc]
  ·have hle:=inv.le
   have h0:k<todo.length:=by simp at h;omega
   have ht:=inv.at h0
   have hto:(k:Int).toNat=k:=by omega
   rw[hto]
   have hbad:=Re m i run (todo.getD k 0)
   have hsm:=small ht.1 ht.2
   have hwv:=wfv ht.1 ht.2
   have hsum:=inv.sum
   have hsle:=inv.sl
   have hsl2:=hr.slots ht.1 ht.2
   refine⟨⟨by omega,by omega⟩,⟨by omega,by omega⟩,fun hs=>?_,fun hs=>?_⟩
   ·have hh:=inv.had h0 hs
    refine⟨todo.length - (k+1)+load m seen,by omega,Up.of ⟨seen,todo,k+1,hh,rfl,?_⟩⟩
    rw[An (by omega)]<;>rfl
   have more:=fun hu=>inv.more hr h0 hs hu
   have bad:=fun hu=>inv.bad h0 hs hu
   refine⟨⟨by omega,by omega⟩,⟨by omega,by omega⟩,fun hc=>AG (bad (by rw[hbad,AlV];exact .inl hc)),fun hc=>?_⟩
   have fin:Gc m i run (todo.getD k 0)=false->(todo.length+(Ck (Ax m (todo.getD k 0))).length)*8<=140737488355328/\∃ g',g'<todo.length - k+load m seen/\Up (fun st=>∃ (seen:List Bool) (todo:List Int) (k:Nat),Inv m i run n b seen todo k/\g'=todo.length - k+load m seen/\st=Pw m i list run seen todo k)
     (Aq [(0,tpM m),(1,Aa i),(2,Ad false list),(3,Aa run),(9,.ow 0 0 seen.length),(10,.ow 1 0 (todo.length+(Ck (Ax m (todo.getD k 0))).length)),(11,Aa (IntKind.i64.wrap (k+1)))]
      [.arr true 0 seen.length 1 (fun j=>bif j.beq (todo.getD k 0).toNat then[.sc (.bool true)] else[.sc (.bool (seen.getD j false))]),.arr true 0 (todo.length+(Ck (Ax m (todo.getD k 0))).length) 1 (fun j=>bif j.blt todo.length then AE todo j else(fun j=>[Aa ((Ck (Ax m (todo.getD k 0))).getD j 0)]) (j - todo.length))]):=by
    intro hu
    have hm:=more hu
    have hm2:=hm.sum
    generalize Ck (Ax m (todo.getD k 0))=H at hm hm2 ⊢
    generalize (todo.getD k 0).toNat=t at hm hm2 ⊢
    rw[Ak4]at hm2
    refine⟨by omega,(todo++H).length - (k+1)+load m (seen.set t true),by rw[Ak4];omega,?_⟩
    have hnl:seen.length=(seen.set t true).length:=by simp
    refine Up.mk (l':=[(0,tpM m),(1,Aa i),(2,Ad false list),(3,Aa run),(9,.ow 0 0 (seen.set t true).length),(10,.ow 1 0 (todo++H).length),(11,Aa ((k+1:Nat):Int))])
     (hs':=[.arr true 0 (seen.set t true).length 1 (H4 (seen.set t true)),.arr true 0 (todo++H).length 1 (AE (todo++H))]) ?_ ?_ ⟨_,_,_,hm,rfl,rfl⟩
    ·rw[An (by omega),← hnl,Ak4];exact AV _
    ·rw[← hnl,← Ak4]
     exact⟨AlB fun j hj=>AQ (SM hj),AlB fun j hj=>AQ (ZN (fun i hi=>rfl) hj),trivial⟩
   refine⟨fun h2=>⟨_,GW hwv,_,PC (fun _=>⟨hi0,hi⟩) (hsl2 (eq_of_beq h2)),fun h3=>AG (bad ?_),fun h3=>?_⟩,fun h2=>?_⟩
   ·rw[hbad,AlV,AkO];exact .inr ⟨h2,h3⟩
   ·have hu:Gc m i run (todo.getD k 0)=false:=by
     rw[hbad,Ald,Amx];exact⟨hc,.inr h3⟩
    obtain⟨f1,f2⟩:=fin hu
    exact⟨Ck (Ax m (todo.getD k 0)),Ir hsm.1 hsm.2,f1,fun i hi=>rfl,f2⟩
   ·have hu:Gc m i run (todo.getD k 0)=false:=by
     rw[hbad,Ald,Amx];exact⟨hc,.inl h2⟩
    obtain⟨f1,f2⟩:=fin hu
    exact⟨Ck (Ax m (todo.getD k 0)),Ir hsm.1 hsm.2,f1,fun i hi=>rfl,f2⟩
theorem YF {m:D.Model}{i run:Int}{list:List Int}{n:Nat}{F:Nat->List VV}(hr:Hx m)(hi0:0<=i)(hi:i<m.Procs.length)(hin:InE m list)(hlen:list.length<=2097152)(hn:n=list.length)(hF:∀ j,j<list.length->F j=[Aa (list.getD j 0)]) :
  Aj Tryz.prog 75 [] [tpM m,Aa i,.sl false n 1 F,Aa run] [] (Ac (Jq m i list run)):=by
 subst hn
 exact(Aay hr hi0 hi hin hlen).le trivial ⟨VV.le_refl _,VV.le_refl _,Amg (.inl rfl) fun j hj=>AQ (hF j hj),VV.le_refl _,trivial⟩ trivial (VV.le_refl _)
def BA (s:D.Stmt):List Int:=s.Args++((if 0<=s.A then[s.A] else[])++(if 0<=s.B then[s.B] else[]))
theorem Ii {m:D.Model}{a:Int}(h:EC m a=true):0<=a/\a<m.Exprs.length:=CF.1 h
theorem Po {m:D.Model}{a:Int}(h:CU m a=true):0<=a/\a<m.Exprs.length:=by
 unfold CU at h
 simp only[AkO]at h
 exact Ii h.1.1
theorem U3 {m:D.Model}{a:Int}{args mt:List Int}(h:Cx m a args mt=true):1<=args.length/\args.length<=8/\mt.length=args.length/\∀ x∈args,0<=x/\x<a:=by
 unfold Cx at h
 simp only[AkO,AkS]at h
 exact⟨h.1.1.1.1,h.1.1.1.2,h.1.1.2,FJ.1 h.1.2⟩
theorem Af1 {m:D.Model}{s:D.Stmt}(h:AN m s=true):InE m s.Args/\(0<=s.A->s.A<m.Exprs.length)/\(0<=s.B->s.B<m.Exprs.length):=by
 have none:∀ {n t:Bool},FF s true n t=true->InE m s.Args:=fun he=>by
  unfold FF at he
  simp only[AkO,Amy,Am3,AkS]at he
  have:s.Args=[]:=Alp (by omega)
  rw[this];intro x hx;cases hx
 unfold AN at h
 split at h
 ·simp only[AkO,AkS]at h
  exact⟨none h.2,fun _=>(Ii h.1.1).2,fun h0=>by omega⟩
 split at h
 ·simp only[AkO]at h
  exact⟨none h.2,fun _=>(Po h.1.1).2,fun _=>(Ii h.1.2).2⟩
 split at h
 ·simp only[AkO,AkS]at h
  exact⟨FJ.1 h.1.1.1.2,fun h0=>by omega,fun h0=>by omega⟩
 split at h
 ·simp only[AkO,AkS]at h
  exact⟨FJ.1 h.1.1.1.2,fun _=>(Ii h.1.1.1.1.1.1.1).2,fun h0=>by omega⟩
 split at h
 ·simp only[AkO,AkS]at h
  have ht:=h.1.1.1.2
  unfold IG at ht
  simp only[AkO]at ht
  exact⟨(U3 ht.1).2.2.2,fun _=>(Ii h.1.1.1.1.1).2,fun h0=>by omega⟩
 split at h
 ·simp only[AkO,AkS]at h
  exact⟨none h.2,fun h0=>by omega,fun h0=>by omega⟩
 split at h
 ·simp only[AkO,AkS]at h
  exact⟨none h.2,fun _=>(Po h.1.1.1.1).2,fun h0=>by omega⟩
 ·cases h
theorem Wz {m:D.Model}{s:D.Stmt}(h:AN m s=true):InE m (BA s):=by
 obtain⟨h1,h2,h3⟩:=Af1 h
 intro x hx
 unfold BA at hx
 rcases Als.1 hx with hx | hx
 ·exact h1 x hx
 rcases Als.1 hx with hx | hx
 ·split at hx
  ·rename_i h0;obtain rfl:=Aln.1 hx;exact⟨h0,h2 h0⟩
  ·cases hx
 ·split at hx
  ·rename_i h0;obtain rfl:=Aln.1 hx;exact⟨h0,h3 h0⟩
  ·cases hx
theorem Adi {m:D.Model}{i:Int}{s:D.Stmt}(hr:Hx m)(hi0:0<=i)(hi:i<m.Procs.length)(hs:Yr s):Aj Tryz.prog 74 [] [tpM m,Aa i,.agg (Ar s)] [] (Ac (MU m i s)):=by
 have ha:=hs.a
 have hkn:∀ {k:Int},(s.Kind==k)=true->s.Kind=k:=fun h=>by simpa using h
 have hkf:∀ {k:Int},(s.Kind==k)=false->s.Kind≠k:=fun h=>by simpa using h
 have ec:(bif bif bif bif i==m.Claim then s.Kind != 1 else false then s.Kind != 3 else false then s.Kind != 7 else false then s.Kind != 8 else false)=(decide (i=m.Claim)&&(decide (s.Kind≠1)&&(decide (s.Kind≠3)&&(decide (s.Kind≠7)&&decide (s.Kind≠8))))):=by
  simp only[ieq,A8,bne,Bool.and_assoc,decide_not]
 refine Ah Al Am Tryz.func74 (by kernel_rfl) rfl (AfR _ m i s) ⟨AN m s,Ps hs,?_⟩
 rw[ec]
 have ew:MU m i s=(AN m s&&!(decide (i=m.Claim)&&(decide (s.Kind≠1)&&(decide (s.Kind≠3)&&(decide (s.Kind≠7)&&decide (s.Kind≠8)))))&&Jq m i (BA s) (if s.Kind=1 then s.A else if s.Kind=2 then s.B else -1)):=rfl
 generalize (decide (i=m.Claim)&&(decide (s.Kind≠1)&&(decide (s.Kind≠3)&&(decide (s.Kind≠7)&&decide (s.Kind≠8)))))=cl at ew ⊢
 refine⟨fun h=>AG ?_,fun h=>?_⟩
 ·rw[ew]
  cases hq:AN m s
  ·rfl
  ·rw[hq]at h
   have:cl=true:=by simpa using h
   rw[this]<;>rfl
 ·have hq:AN m s=true:=by
   cases hq:AN m s with
   | true=>rfl
   | false=>rw[hq]at h;simp at h
  have hcl:cl=false:=by rw[hq]at h;simpa using h
  rw[hq,hcl]at ew
  simp only[Bool.not_false,AlI]at ew
  have hin:=Wz hq
  have go:∀ (run:Int) (n:Nat) (F:Nat->List VV),n=(BA s).length->(∀ j,j<(BA s).length->F j=[Aa ((BA s).getD j 0)])->Aj Tryz.prog 75 [] [tpM m,Aa i,.sl false n 1 F,Aa run] [] (Ac (Jq m i (BA s) run)):=fun run n F hn hF =>
   YF hr hi0 hi hin (by unfold BA;simp only[Ak4];split<;>split<;>simp<;>omega) hn hF
  have r1:s.Kind=1->MU m i s=Jq m i (BA s) s.A:=fun h=>by rw[ew,Alj h]
  have r2:s.Kind≠1->s.Kind=2->MU m i s=Jq m i (BA s) s.B:=fun h h'=>by rw[ew,Ak3 h,Alj h']
  have r3:s.Kind≠1->s.Kind≠2->MU m i s=Jq m i (BA s) (-1):=fun h h'=>by rw[ew,Ak3 h,Ak3 h']
  generalize MU m i s=b at r1 r2 r3 ⊢
  refine⟨by omega,fun _ _=>rfl,fun hA=>⟨by omega,fun hB=>⟨by omega,?_⟩,fun hB=>?_⟩,fun hA=>⟨fun hB=>⟨by omega,?_⟩,fun hB=>?_⟩⟩
  ·have hL:BA s=(s.Args++[s.A])++[s.B]:=by unfold BA;rw[Alj (by simpa using hA),Alj (by simpa using hB),AlF]
   have c1:s.Args.length+1+1=(BA s).length:=by rw[hL];simp
   have e1:s.Args.length+1=(s.Args++[s.A]).length:=by simp
   have c2:∀ j,j<(BA s).length->(bif Nat.blt j (s.Args.length+1) then(fun j=>bif Nat.blt j s.Args.length then[VV.sc (.int .i64 (s.Args.getD j 0))] else(fun i=>List.take 1 (List.drop (i*1) [VV.sc (.int .i64 s.A)])) (j - s.Args.length)) j else(fun i=>List.take 1 (List.drop (i*1) [VV.sc (.int .i64 s.B)])) (j - (s.Args.length+1)))=[Aa ((BA s).getD j 0)]:=by
    rw[hL,e1]
    exact fun j hj=>BQ (f:=fun n=>[Aa n]) (d:=0) (l:=s.Args++[s.A]) (r:=[s.B]) (F:=fun j=>bif Nat.blt j s.Args.length then[VV.sc (.int .i64 (s.Args.getD j 0))] else(fun i=>List.take 1 (List.drop (i*1) [VV.sc (.int .i64 s.A)])) (j - s.Args.length)) (fun i hi=>BQ (f:=fun n=>[Aa n]) (d:=0) (l:=s.Args) (r:=[s.A]) (F:=fun j=>[.sc (.int .i64 (s.Args.getD j 0))]) (fun i hi=>rfl) Hs hi) Hs hj
   exact⟨fun k1=>⟨_,go _ _ _ c1 c2,AG (r1 (hkn k1)).symm⟩,fun k1=>⟨fun k2=>⟨_,go _ _ _ c1 c2,AG (r2 (hkf k1) (hkn k2)).symm⟩,fun k2=>⟨_,go _ _ _ c1 c2,AG (r3 (hkf k1) (hkf k2)).symm⟩⟩⟩
  ·have hL:BA s=s.Args++[s.A]:=by unfold BA;rw[Alj (by simpa using hA),Ak3 (by simpa using hB),AlN]
   have c1:s.Args.length+1=(BA s).length:=by rw[hL];simp
   have c2:∀ j,j<(BA s).length->(bif Nat.blt j s.Args.length then[VV.sc (.int .i64 (s.Args.getD j 0))] else(fun i=>List.take 1 (List.drop (i*1) [VV.sc (.int .i64 s.A)])) (j - s.Args.length))=[Aa ((BA s).getD j 0)]:=by
    rw[hL]
    exact fun j hj=>BQ (f:=fun n=>[Aa n]) (d:=0) (l:=s.Args) (r:=[s.A]) (F:=fun j=>[.sc (.int .i64 (s.Args.getD j 0))]) (fun i hi=>rfl) Hs hj
   exact⟨fun k1=>⟨_,go _ _ _ c1 c2,AG (r1 (hkn k1)).symm⟩,fun k1=>⟨fun k2=>⟨_,go _ _ _ c1 c2,AG (r2 (hkf k1) (hkn k2)).symm⟩,fun k2=>⟨_,go _ _ _ c1 c2,AG (r3 (hkf k1) (hkf k2)).symm⟩⟩⟩
  ·have hL:BA s=s.Args++[s.B]:=by unfold BA;rw[Ak3 (by simpa using hA),Alj (by simpa using hB),Al9]
   have c1:s.Args.length+1=(BA s).length:=by rw[hL];simp
   have c2:∀ j,j<(BA s).length->(bif Nat.blt j s.Args.length then[VV.sc (.int .i64 (s.Args.getD j 0))] else(fun i=>List.take 1 (List.drop (i*1) [VV.sc (.int .i64 s.B)])) (j - s.Args.length))=[Aa ((BA s).getD j 0)]:=by
    rw[hL]
    exact fun j hj=>BQ (f:=fun n=>[Aa n]) (d:=0) (l:=s.Args) (r:=[s.B]) (F:=fun j=>[.sc (.int .i64 (s.Args.getD j 0))]) (fun i hi=>rfl) Hs hj
   exact⟨fun k1=>⟨_,go _ _ _ c1 c2,AG (r1 (hkn k1)).symm⟩,fun k1=>⟨fun k2=>⟨_,go _ _ _ c1 c2,AG (r2 (hkf k1) (hkn k2)).symm⟩,fun k2=>⟨_,go _ _ _ c1 c2,AG (r3 (hkf k1) (hkf k2)).symm⟩⟩⟩
  ·have hL:BA s=s.Args:=by unfold BA;rw[Ak3 (by simpa using hA),Ak3 (by simpa using hB),AlN,AlN]
   have c1:s.Args.length=(BA s).length:=by rw[hL]
   have c2:∀ j,j<(BA s).length->[Aa (s.Args.getD j 0)]=[Aa ((BA s).getD j 0)]:=by rw[hL];exact fun _ _=>rfl
   exact⟨fun k1=>⟨_,go _ _ _ c1 c2,AG (r1 (hkn k1)).symm⟩,fun k1=>⟨fun k2=>⟨_,go _ _ _ c1 c2,AG (r2 (hkf k1) (hkn k2)).symm⟩,fun k2=>⟨_,go _ _ _ c1 c2,AG (r3 (hkf k1) (hkf k2)).symm⟩⟩⟩
theorem Ada {t:D.Trans}(h:OY t):Yr t.S:=⟨h.S.Args.1,h.S.Match.1⟩
theorem AfQ {l:D.Loc}(h:O0 l):(DN l).length<=1048577/\∀ w∈DN l,Ki w:=by
 refine⟨by have:=h.Esc.1;simp[DN];omega,fun w hw=>?_⟩
 rcases AlC.1 hw with rfl | hw
 ·exact h.Out
 ·exact h.Esc.2 w hw
theorem Aby {m:D.Model}{i:Int}(hr:Hx m)(hi0:0<=i)(hi:i<m.Procs.length)(hpv:(m.Procs.getD i.toNat default).Provided<m.Exprs.length) :
  Aj Tryz.prog 53 [] [tpM m,Aa i] [] (Ac (DS m i)):=by
 have hw:=hr.wf.Procs.2 _ (Aw (d:=default) (show i.toNat<m.Procs.length by omega))
 refine Ah Al Am Tryz.func53 (by kernel_rfl) rfl (Aen _ m i) ⟨⟨hi0,hi⟩,?_⟩
 generalize hb:DS m i=b
 unfold DS at hb
 simp only at hb
 generalize m.Procs.getD i.toNat default=p at hw hpv hb ⊢
 have hl:=hw.Locs.1
 have bad:∀ k,k<p.Locs.length->Tc m i (p.Locs.getD k default)=false->false=b:=fun k hk hf=>by
  rw[Dh (f:=fun k=>Tc m i (p.Locs.getD k default)) hk hf]at hb
  simpa using hb
 refine AS Al Am p.Locs.length (fun k=>Ma m i p k) (fun k=>∀ j,j<k->Tc m i (p.Locs.getD j default)=true) (by kernel_rfl) (by kernel_rfl) (fun i hi=>by omega) ?_
 intro k hk hI J next
 refine Ali (AbB _ m i p k J) ⟨fun hlt=>?_,fun hge=>⟨Jq m i [p.Provided] (-1),fun hy=>?_,AG ?_⟩⟩
 ·have hlt':k<p.Locs.length:=by have:=A3 hlt;omega
  have hto:(k:Int).toNat=k:=by omega
  rw[hto]
  have hwl:=hw.Locs.2 _ (Aw (d:=default) hlt')
  have bad':=bad k hlt'
  have next':∀ st',Tc m i (p.Locs.getD k default)=true->Up (fun s=>s=Ma m i p ((k+1:Nat):Int)) st'->J st':=fun st' h hu=>next st' hlt' (fun j hj=>by
   rcases Alr.1 hj with h' | rfl
   ·exact hI j h'
   ·exact h) hu
  generalize p.Locs.getD k default=l at hwl bad' next' ⊢
  obtain⟨hws,hwe⟩:=AfQ hwl
  refine⟨⟨by omega,by omega⟩,DN l,Q5 hwl.Esc.1,?_⟩
  unfold Tc at bad' next'
  generalize DN l=ws at hws hwe bad' next' ⊢
  refine AS Al Am ws.length (fun j=>L9 m i p k ws j) (fun j=>∀ x,x<j->Lk m i (ws.getD x [])=true) (by kernel_rfl) (by kernel_rfl) (fun i hi=>by omega) ?_
  intro j hj hI2 J2 next2
  refine Ali (AbA _ m i p k ws j J J2) ⟨fun hlt2=>?_,fun hge2=>?_⟩
  ·have hlt2':j<ws.length:=by have:=A3 hlt2;omega
   have hto2:(j:Int).toNat=j:=by omega
   rw[hto2]
   have hwle:=hwe _ (Aw (d:=[]) hlt2')
   have bad2:Lk m i (ws.getD j [])=false->false=b:=fun hf=>bad' (Dh (f:=fun x=>Lk m i (ws.getD x [])) hlt2' hf)
   have next2':∀ st',Lk m i (ws.getD j [])=true->Up (fun s=>s=L9 m i p k ws ((j+1:Nat):Int)) st'->J2 st':=fun st' h hu=>next2 st' hlt2' (fun x hx=>by
    rcases Alr.1 hx with h' | rfl
    ·exact hI2 x h'
    ·exact h) hu
   generalize ws.getD j []=w at hwle bad2 next2' ⊢
   have hwl1:=hwle.1
   refine⟨⟨by omega,by omega⟩,?_⟩
   refine AS Al Am w.length (fun h=>Ot m i p k ws j w h) (fun h=>∀ x,x<h->MU m i (w.getD x default).S=true) (by kernel_rfl) (by kernel_rfl) (fun i hi=>by omega) ?_
   intro h hh hI3 J3 next3
   refine Ali (Abz _ m i p k ws j w h J J2 J3) ⟨fun hlt3=>?_,fun hge3=>?_⟩
   ·have hlt3':h<w.length:=by have:=A3 hlt3;omega
    have hto3:(h:Int).toNat=h:=by omega
    rw[hto3]
    have hst:=Ada (hwle.2 _ (Aw (d:=default) hlt3'))
    refine⟨⟨by omega,by omega⟩,MU m i (w.getD h default).S,Adi hr hi0 hi hst,fun hy=>AG ?_,fun hy=>next3 _ hlt3' (fun x hx=>?_) (Up.of ?_)⟩
    ·exact bad2 (Dh (f:=fun x=>MU m i (w.getD x default).S) hlt3' (by simpa using hy))
    ·rcases Alr.1 hx with h' | rfl
     ·exact hI3 x h'
     ·simpa using hy
    ·rw[An (by omega)]<;>rfl
   ·have hge3':w.length<=h:=by have:=A5 hge3;omega
    refine next2' _ (Bx.2 fun x hx=>hI3 x (by omega)) (Up.of ?_)
    rw[An (by omega)]<;>rfl
  ·have hge2':ws.length<=j:=by have:=A5 hge2;omega
   refine next' _ (Bx.2 fun x hx=>hI2 x (by omega)) (Up.of ?_)
   rw[An (by omega)]<;>rfl
 ·have h0:0<=p.Provided:=by simp at hy;omega
  refine Aj.frz (YF (list:=[p.Provided]) (n:=1) hr hi0 hi (fun x hx=>?_) (by simp) rfl Hs) rfl ?_
  ·obtain rfl:=Aln.1 hx;exact⟨h0,hpv⟩
  ·intro j x y hx hy
   match j with
   | 0=>simp at hx hy;subst hx hy;exact Dv _
   | 1=>simp at hx hy;subst hx hy;exact Dv _
   | 2=>simp only[AlA,AkZ,AkP]at hx hy;subst hx hy;exact P9
   | 3=>simp at hx hy;subst hx hy;exact Dv _
   | j+4=>simp at hx
 ·have hge':p.Locs.length<=k:=by have:=A5 hge;omega
  rw[← hb,(Bx (n:=p.Locs.length) (f:=fun k=>Tc m i (p.Locs.getD k default))).2 fun j hj=>hI j (by omega),AlI,A7]
theorem R2 {m:D.Model}:∀ (g i:Nat) (had:List Bool),g+i=m.Exprs.length->H8 m g i had<0->∀ j,i<=j->j<m.Exprs.length->EP m j=true
 | 0,i,had,h,_,j,h1,h2=>by omega
 | g+1,i,had,h,hn,j,h1,h2=>by
  unfold H8 at hn
  cases he:EP m i with
  | false=>rw[he,AkN]at hn;omega
  | true =>
   rw[he,AkQ]at hn
   split at hn
   ·rename_i had' _
    by_cases hij:i=j
    ·subst hij;exact he
    ·exact R2 g (i+1) had' (by omega) hn j (by omega) h2
   ·omega
theorem Vp {m:D.Model}(h:H7 m<0):∀ k:Nat,k<m.Exprs.length->EP m k=true:=fun k hk=>R2 _ 0 _ rfl h k (AkV _) hk
theorem Hd {n:Nat}{f:Nat->Bool}(h:J0 n f<0):∀ i,i<n->f i=true:=by
 rcases Qx (n:=n) (f:=f) with⟨_,h2⟩ | ⟨k,_,h2,_⟩
 ·exact h2
 ·omega
theorem AhA {n:Nat}{f:Nat->Bool}:-1<=J0 n f:=by
 rcases Qx (n:=n) (f:=f) with⟨h1,_⟩ | ⟨k,_,h2,_⟩<;>omega
theorem ngt (n k:Nat):decide ((n:Int) > k)=decide (k<n):=by rw[Alc,AkS,AkS];omega
theorem Uj {m:D.Model}(hw:Av m):Aj Tryz.prog 49 [] [tpM m] [] (.tup [Aa (CV m).1,Aa (CV m).2]):=by
 have hG:=hw.Globals.1
 have hS:=hw.Shapes.1
 have hC:=hw.Chans.1
 have hE:=hw.Exprs.1
 refine Ah Al Am Tryz.func49 (by kernel_rfl) rfl (WN _ _ m) ?_
 have t1:(bif decide ((m.Globals.length:Int) > 128) then true else(m.Init.length:Int) != (m.Globals.length:Int))=(decide (128<m.Globals.length)||!decide (m.Init.length=m.Globals.length)):=by rw[Alc];simp;omega
 have t2:(bif decide ((m.Shapes.length:Int) > 32) then true else decide ((m.Chans.length:Int) > 32))=(decide (32<m.Shapes.length)||decide (32<m.Chans.length)):=by rw[Alc];simp;omega
 have t3:(bif bif bif bif decide ((m.Procs.length:Int)<1) then true else decide ((m.Procs.length:Int) > 16) then true else decide (m.Claim<(-1:Int)) then true else decide (m.Claim>=(m.Procs.length:Int)) then true else decide ((m.Exprs.length:Int) > 4096)) =
   (decide (m.Procs.length<1)||(decide (16<m.Procs.length)||(decide (m.Claim < -1)||(decide ((m.Procs.length:Int)<=m.Claim)||decide (4096<m.Exprs.length))))):=by
  have u1:decide ((m.Procs.length:Int)<1)=decide (m.Procs.length<1):=by rw[Alc,AkS,AkS];omega
  have u2:decide ((m.Procs.length:Int) > 16)=decide (16<m.Procs.length):=ngt _ 16
  have u3:decide ((m.Exprs.length:Int) > 4096)=decide (4096<m.Exprs.length):=ngt _ 4096
  rw[u1,u2,u3];simp only[A7,AlX]
 rw[t1,t2]
 generalize hR:CV m=R
 unfold CV at hR
 refine⟨fun h=>MB (by rw[h,AkQ]at hR;exact hR),fun h=>⟨Fm m.Globals m.Init,Pe (by simp at h;omega) hG,fun h2=>MB (by rw[h,AkN,h2,AkQ]at hR;exact hR),fun h2=>⟨fun h3=>MB ?_,fun h3=>?_⟩⟩⟩
 ·rw[h,AkN,h2,AkN,h3,AkQ]at hR;exact hR
 rw[h,AkN,h2,AkN,h3,AkN]at hR
 refine AS Al Am m.Shapes.length (fun k=>SE m k) (fun k=>∀ i,i<k->D6 (m.Shapes.getD i default)=true) (by kernel_rfl) (by kernel_rfl) (fun i hi=>by omega) ?_
 intro k hk hI J next
 refine Ali (Un _ _ m k J) ⟨fun hlt=>?_,fun hge=>?_⟩
 ·have hlt':k<m.Shapes.length:=by have:=A3 hlt;omega
  refine⟨⟨by omega,by omega⟩,D6 (m.Shapes.getD k default),W7 (hw.Shapes.2 _ (Aw hlt')),fun hy=>MB ?_,fun hy=>next _ hlt' (fun i hi=>?_) (Up.of ?_)⟩
  ·have e:Gy m=k:=Iu (f:=fun i=>D6 (m.Shapes.getD i default)) hI hlt' (by simpa using hy)
   rw[e,show decide ((0:Int)<=(k:Int))=true by simp,AkQ]at hR
   exact hR
  ·rcases Alr.1 hi with h | rfl
   ·exact hI i h
   ·simpa using hy
  ·rw[An (by omega)]<;>rfl
 have hge':m.Shapes.length<=k:=by have:=A5 hge;omega
 have es:Gy m=-1:=Iv (f:=fun i=>D6 (m.Shapes.getD i default)) fun i hi=>hI i (by omega)
 rw[es,show decide ((0:Int)<=-1)=false from rfl,AkN]at hR
 clear hI next
 refine AS Al Am m.Chans.length (fun k=>SD m k) (fun k=>∀ i,i<k->inP m.Shapes.length (m.Chans.getD i 0)=true) (by kernel_rfl) (by kernel_rfl) (fun i hi=>by omega) ?_
 intro k hk hI J next
 refine Ali (Um _ _ m k J) ⟨fun hlt=>?_,fun hge=>?_⟩
 ·have hlt':k<m.Chans.length:=by have:=A3 hlt;omega
  have hto:(k:Int).toNat=k:=by omega
  rw[hto]
  have hin:inP m.Shapes.length (m.Chans.getD k 0)=!(bif decide (m.Chans.getD k 0<0) then true else decide (m.Chans.getD k 0>=(m.Shapes.length:Int))):=by unfold inP;rw[Alc];simp
  refine⟨⟨by omega,by omega⟩,fun hy=>MB ?_,fun hy=>next _ hlt' (fun i hi=>?_) (Up.of ?_)⟩
  ·have e:I2 m=k:=Iu (f:=fun i=>inP m.Shapes.length (m.Chans.getD i 0)) hI hlt' (by show inP _ _=false;rw[hin,hy]<;>rfl)
   rw[e,show decide ((0:Int)<=(k:Int))=true by simp,AkQ]at hR
   exact hR
  ·rcases Alr.1 hi with h | rfl
   ·exact hI i h
   ·rw[hin,hy]<;>rfl
  ·rw[An (by omega)]<;>rfl
 have hge':m.Chans.length<=k:=by have:=A5 hge;omega
 have ec:I2 m=-1:=Iv (f:=fun i=>inP m.Shapes.length (m.Chans.getD i 0)) fun i hi=>hI i (by omega)
 rw[ec,show decide ((0:Int)<=-1)=false from rfl,AkN]at hR
 rw[t3]
 refine⟨fun h4=>MB (by rw[h4,AkQ]at hR;exact hR),fun h4=>⟨⟨by omega,by omega,by omega⟩,?_⟩⟩
 rw[h4,AkN]at hR
 clear hI next
 have hnn:((m.Exprs.length:Int).toNat)=(Bi m).length:=by simp[Bi]
 have hnl:(Bi m).length=m.Exprs.length:=by simp[Bi]
 refine AB.le (l':=[(0,tpM m),(4,.bp 0 0),(10,.ow 1 0 (Bi m).length),(116,Aa m.Exprs.length),(117,Aa 0)]) (hs':=[.box (Ae m),.arr true 0 (Bi m).length 1 (H4 (Bi m))]) ?_ ?_ ?_
 ·rw[hnn];exact AV _
 ·rw[hnn]
  refine⟨Ob.le_refl _,AlB fun i hi=>AQ ?_,trivial⟩
  have:(Bi m).getD i false=false:=by
   have hi':i<m.Exprs.length:=by rw[← hnl];exact hi
   simp[Bi,List.getD,hi']
  show _=[Ac ((Bi m).getD i false)]
  rw[this]<;>rfl
 generalize hX:H7 m=X at hR
 have fin:∀ {y:Int × Int},(bif decide (0<=X) then((3:Int),X) else(0,0))=y->y=R:=fun h=>by rw[← h];exact hR
 refine Br Al Am (fun g st=>∃ (k:Nat) (had:List Bool),k<=m.Exprs.length/\g=m.Exprs.length - k/\had.length=m.Exprs.length/\H8 m (m.Exprs.length - k) k had=X/\st=WX m had k) (by kernel_rfl) (by kernel_rfl) ⟨_,Up.of ⟨0,Bi m,AkV _,rfl,hnl,hX,rfl⟩⟩ ?_
 rintro g st ⟨k,had,hk,rfl,hhl,hr,rfl⟩
 refine Ali (Ul _ _ m had k _) ⟨fun hlt=>?_,fun hge=>MB (fin ?_)⟩
 ·have hlt':k<m.Exprs.length:=by have:=A3 hlt;omega
  have hto:(k:Int).toNat=k:=by omega
  rw[hto]
  have hwx:Oh (m.Exprs.getD k default):=hw.Exprs.2 _ (Aw hlt')
  rw[show m.Exprs.length - k=(m.Exprs.length - (k+1))+1 by omega]at hr
  unfold H8 at hr
  refine⟨EP m k,Acs (by omega) (by omega) (by unfold Ax;rw[hto];exact hwx),fun hy=>MB (fin ?_),fun hy=>⟨⟨by omega,by omega⟩,Ck (m.Exprs.getD k default),Ir hwx.Args.1 hwx.V.Dims.1,?_⟩⟩
  ·rw[show EP m k=false by simpa using hy,AkN]at hr
   rw[← hr,show decide ((0:Int)<=(k:Int))=true by simp,AkQ]
  ·have hye:EP m k=true:=by simpa using hy
   rw[hye,AkQ]at hr
   have hin:=Zy hye
   have hhlen:=Vf hwx.Args.1 hwx.V.Dims.1
   unfold Ax at hin
   rw[hto]at hin
   generalize Ck (m.Exprs.getD k default)=l at hin hhlen hr ⊢
   generalize ho:Acd had l=o at hr
   refine Br Al Am (fun g st=>∃ (j:Nat) (had':List Bool),j<=l.length/\g=l.length - j/\had'.length=m.Exprs.length/\Acd had' (l.drop j)=o/\st=WW m had' k l j) (by kernel_rfl) (by kernel_rfl) ⟨_,Up.of ⟨0,had,AkV _,rfl,hhl,ho,rfl⟩⟩ ?_
   rintro g st ⟨j,had',hj,rfl,hhl',hq,rfl⟩
   refine Ali (Uk _ _ m had' k l j _ _) ⟨fun hlt2=>?_,fun hge2=>?_⟩
   ·have hlt2':j<l.length:=by have:=A3 hlt2;omega
    have hto2:(j:Int).toNat=j:=by omega
    rw[hto2]
    have hpi:=hin _ (Aw (d:=0) hlt2')
    rw[BN (d:=0) hlt2']at hq
    generalize l.getD j 0=p at hpi hq ⊢
    unfold Acd at hq
    refine⟨⟨by omega,by omega⟩,⟨by omega,by omega⟩,fun hy=>MB (fin ?_),fun hy=>⟨⟨by omega,by omega⟩,l.length - (j+1),by omega,?_⟩⟩
    ·rw[hy,AkQ]at hq
     rw[← hq]at hr
     rw[← hr,show decide ((0:Int)<=(k:Int))=true by simp,AkQ]
    ·rw[hy,AkN]at hq
     have hsl:(had'.set p.toNat true).length=had'.length:=by simp
     rw[An (by omega)]
     refine Up.mk (l':=[(0,tpM m),(4,.bp 0 0),(10,.ow 1 0 (had'.set p.toNat true).length),(11,Aa k),(116,Aa m.Exprs.length),(117,Aa k),(130,Ad true l),(131,Aa l.length),(132,Aa ((j+1:Nat):Int))])
      (hs':=[.box (Ae m),.arr true 0 (had'.set p.toNat true).length 1 (H4 (had'.set p.toNat true))]) ?_ ?_ ⟨j+1,had'.set p.toNat true,by omega,rfl,by rw[hsl];exact hhl',hq,rfl⟩
     ·rw[hsl];exact AV _
     ·rw[hsl]
      exact⟨Ob.le_refl _,AlB fun i hi=>AQ (SM hi),trivial⟩
   ·have hge2':l.length<=j:=by have:=A5 hge2;omega
    rw[Ame hge2']at hq
    unfold Acd at hq
    rw[← hq]at hr
    rw[An (by omega)]
    exact⟨m.Exprs.length - (k+1),by omega,Up.of ⟨k+1,had',by omega,rfl,hhl',hr,rfl⟩⟩
 ·have hge':m.Exprs.length<=k:=by have:=A5 hge;omega
  rw[show m.Exprs.length - k=0 by omega]at hr
  unfold H8 at hr
  rw[← hr]<;>rfl
theorem Ako (a b:Int)(x:Bool):(bif a==b then !x else false)=(decide (a=b)&&!x):=by rw[ieq,A8]
theorem JQ (m:D.Model)(k:Nat):Eb m k=(bif bif bif bif !(Dk (m.Procs.getD k default)) then true else !(EE (m.Procs.getD k default)) then true else decide ((m.Procs.getD k default).Provided<(-1:Int)) then true else decide ((m.Procs.getD k default).Provided>=(m.Exprs.length:Int)) then true else bif (k:Int)==m.Claim then !(E9 (m.Procs.getD k default)) else false):=by
 unfold Eb
 simp only[Ako,A7,AlX]
theorem AbU {m:D.Model}{k:Nat}(hk:k<m.Procs.length):EN m (k+1)=EN m k+(m.Procs.getD k default).Active:=by
 unfold EN
 rw[Ie (d:=default) hk,AmJ,List.sum_append]
 simp
theorem Sw {m:D.Model}(hw:Av m)(h:¬ 0<(CV m).1):Hx m:=by
 refine⟨hw,Vp ?_⟩
 have hx:-1<=H7 m:=by
  unfold H7
  have:∀ (g i:Nat) (had:List Bool),-1<=H8 m g i had:=by
   intro g
   induction g with
   | zero=>intro i had;unfold H8;omega
   | succ g ih =>
    intro i had
    unfold H8
    cases EP m i with
    | false=>simp only[AkN];omega
    | true =>
     simp only[AkQ]
     split
     ·exact ih _ _
     ·omega
  exact this _ _ _
 refine Alf fun hn=>h ?_
 unfold CV
 generalize (decide (128<m.Globals.length)||!decide (m.Init.length=m.Globals.length))=b1
 generalize decide (0<=Fm m.Globals m.Init)=b2
 generalize (decide (32<m.Shapes.length)||decide (32<m.Chans.length))=b3
 generalize decide (0<=Gy m)=b4
 generalize decide (0<=I2 m)=b5
 generalize (decide (m.Procs.length<1)||(decide (16<m.Procs.length)||(decide (m.Claim < -1)||(decide ((m.Procs.length:Int)<=m.Claim)||decide (4096<m.Exprs.length)))))=b6
 rw[show decide (0<=H7 m)=true by simp;omega]
 cases b1<;>cases b2<;>cases b3<;>cases b4<;>cases b5<;>cases b6<;>simp
theorem Yh {m:D.Model}(hw:Av m):Aj Tryz.prog 36 [] [.agg (Ae m)] [] (.tup [Aa (I1 m).1,Aa (I1 m).2.1,Aa (I1 m).2.2]):=by
 have hP:=hw.Procs.1
 refine Ah Al Am Tryz.func36 (by kernel_rfl) rfl (AcJ _ _ _ m) ⟨CV m,Uj hw,?_⟩
 generalize hR:I1 m=R
 unfold I1 at hR
 refine⟨fun h=>U6 (by rw[show decide (0<(CV m).1)=true from h,AkQ]at hR;exact hR),fun h=>?_⟩
 have hready:=Sw hw (Ak6 h)
 rw[show decide (0<(CV m).1)=false from h,AkN]at hR
 refine AS Al Am m.Procs.length (fun k=>Mf m (EN m k) k) (fun k=>(∀ i,i<k->(!Eb m i)=true)/\0<=EN m k/\EN m k<=16*k) (by kernel_rfl) (by kernel_rfl) ⟨fun i hi=>by omega,by simp[EN],by simp[EN]⟩ ?_
 intro k hk ⟨hI,hm0,hm1⟩ J next
 refine Ali (Yj _ _ _ m (EN m k) k J) ⟨fun hlt=>?_,fun hge=>?_⟩
 ·have hlt':k<m.Procs.length:=by have:=A3 hlt;omega
  have hto:(k:Int).toNat=k:=by omega
  rw[hto]
  have hwp:=hw.Procs.2 _ (Aw (d:=default) hlt')
  refine⟨⟨by omega,by omega⟩,Dk (m.Procs.getD k default),XZ hwp,EE (m.Procs.getD k default),fun _=>XU hwp,E9 (m.Procs.getD k default),fun _=>Tx hwp,?_⟩
  rw[← JQ]
  refine⟨fun hy=>U6 ?_,fun hy=>?_⟩
  ·have e:E5 m=k:=Iu (f:=fun i=>!Eb m i) hI hlt' (by rw[hy]<;>rfl)
   rw[e,show decide ((0:Int)<=(k:Int))=true by simp,AkQ]at hR
   exact hR
  ·have hfr:Dk (m.Procs.getD k default)=true:=by
    rw[JQ]at hy
    cases hq:Dk (m.Procs.getD k default) with
    | true=>rfl
    | false=>rw[hq]at hy;simp at hy
   have hac:0<=(m.Procs.getD k default).Active/\(m.Procs.getD k default).Active<=16:=by
    unfold Dk at hfr
    simp only[AkO,AkS]at hfr
    omega
   have hms:=AbU hlt'
   refine next _ hlt' ⟨fun i hi=>?_,by omega,by omega⟩ (Up.of ?_)
   ·rcases Alr.1 hi with h | rfl
    ·exact hI i h
    ·rw[hy]<;>rfl
   ·rw[hms,An (by omega),BF (n:=EN m k+_) (by omega) (by omega)]<;>rfl
 ·have hge':k=m.Procs.length:=by have:=A5 hge;omega
  subst hge'
  have e:E5 m=-1:=Iv (f:=fun i=>!Eb m i) fun i hi=>hI i (by omega)
  rw[e,show decide ((0:Int)<=-1)=false from rfl,AkN]at hR
  refine⟨fun h2=>U6 (by rw[show decide (16<EN m m.Procs.length)=true from h2,AkQ]at hR;exact hR),fun h2=>?_⟩
  rw[show decide (16<EN m m.Procs.length)=false from h2,AkN]at hR
  have hpv:∀ i,i<m.Procs.length->(m.Procs.getD i default).Provided<m.Exprs.length:=fun i hi=>by
   have:=hI i hi
   rw[JQ]at this
   simp only[A7,Amn,Ald,Alq]at this
   omega
  clear hI next
  refine AS Al Am m.Procs.length (fun k=>Me m k) (fun k=>∀ i:Nat,i<k->DS m i=true) (by kernel_rfl) (by kernel_rfl) (fun i hi=>by omega) ?_
  intro k hk hI J next
  refine Ali (Yi _ _ _ m k J) ⟨fun hlt=>?_,fun hge=>U6 ?_⟩
  ·have hlt':k<m.Procs.length:=by have:=A3 hlt;omega
   refine⟨DS m k,Aby hready (by omega) (by omega) (hpv _ (by omega)),fun hy=>U6 ?_,fun hy=>next _ hlt' (fun i hi=>?_) (Up.of ?_)⟩
   ·have e:JG m=k:=Iu (f:=fun i:Nat=>DS m i) hI hlt' (by simpa using hy)
    rw[e,show decide ((0:Int)<=(k:Int))=true by simp,AkQ]at hR
    exact hR
   ·rcases Alr.1 hi with h | rfl
    ·exact hI i h
    ·simpa using hy
   ·rw[An (by omega)]<;>rfl
  ·have hge':m.Procs.length<=k:=by have:=A5 hge;omega
   have e:JG m=-1:=Iv (f:=fun i:Nat=>DS m i) fun i hi=>hI i (by omega)
   rw[e,show decide ((0:Int)<=-1)=false from rfl,AkN]at hR
   exact hR
def K8 (fz:Bool)(x:D.State):List VV:=[Ad true x.Globals,Az fz x.Chans,Ap fz x.Procs,Aa x.Last,Aa x.Alone,Aa x.Claim]
def BE (t:List D.Type)(l:List Int):Bool:=decide (t.length=l.length)&&D4 l.length fun i=>DF (t.getD i default) (l.getD i 0)
def BU (m:D.Model)(k:Int):D.Shape:=m.Shapes.getD k.toNat default
def A9 (m:D.Model)(k:Int):D.Proc:=m.Procs.getD k.toNat default
def Dg (m:D.Model)(c:D.Chan):Bool:=inP m.Shapes.length c.Shape&&decide ((c.Queue.length:Int)<=(BU m c.Shape).Room)&&D4 c.Queue.length fun i=>BE (BU m c.Shape).Fields (c.Queue.getD i [])
def A2 (m:D.Model)(p:D.Process):Bool:=D0 m p.Type_&&inP (A9 m p.Type_).Locs.length p.Loc&&decide (p.Prio=(A9 m p.Type_).Prio)&&BE (A9 m p.Type_).Frame p.Frame
def K6 (m:D.Model)(s:D.State):Bool:=BE m.Globals s.Globals&&decide (s.Chans.length<=32)&&decide (s.Procs.length<=16)&&decide (0<=s.Last)&&decide (s.Last<16)&&decide (-1<=s.Alone)&&decide (s.Alone<s.Procs.length)
def GD (m:D.Model)(s:D.State):Bool:=bif decide (m.Claim<0) then decide (s.Claim=-1) else inP (A9 m m.Claim).Locs.length s.Claim
def DJ (m:D.Model)(s:D.State):Bool:=K6 m s&&(D4 s.Chans.length fun i=>Dg m (s.Chans.getD i default))&&(D4 s.Procs.length fun i=>A2 m (s.Procs.getD i default))&&GD m s
def Dt (m:D.Model):Bool:=decide ((I1 m).1=0)
def Ci (m:D.Model)(s:D.State):Int:=bif Dt m then(bif DJ m s then 0 else 41) else 40
structure Lim (m:D.Model):Prop where
 room:∀ k:Int,0<=k->k<m.Shapes.length->(BU m k).Room<=16
 locs:∀ k:Int,0<=k->k<m.Procs.length->(A9 m k).Locs.length<=256
 one:1<=m.Procs.length
 clp:m.Claim<m.Procs.length
theorem Cz {m:D.Model}(h:Dt m=true):CV m=(0,0)/\E5 m=-1/\JG m=-1:=by
 unfold Dt I1 at h
 have h1:∀ n (f:Nat->Bool),-1<=J0 n f:=fun n f=>AhA
 have hf:=h1 m.Procs.length fun i=>!Eb m i
 have hp:=h1 m.Procs.length fun i:Nat=>DS m i
 cases b1:decide (0<(CV m).1) with
 | true=>rw[b1,AkQ]at h;simp at h
 | false =>
  rw[b1,AkN]at h
  cases b2:decide (0<=E5 m) with
  | true=>rw[b2,AkQ]at h;simp at h
  | false =>
   rw[b2,AkN]at h
   cases b3:decide (16<EN m m.Procs.length) with
   | true=>rw[b3,AkQ]at h;simp at h
   | false =>
    rw[b3,AkN]at h
    cases b4:decide (0<=JG m) with
    | true=>rw[b4,AkQ]at h;simp at h
    | false =>
     have:=Ak6 b2
     have:=Ak6 b4
     refine⟨?_,by show J0 _ _=-1;unfold E5 at *;omega,by show J0 _ _=-1;unfold JG at *;omega⟩
     have b1:=Ak6 b1
     unfold CV at b1 ⊢
     generalize (decide (128<m.Globals.length)||!decide (m.Init.length=m.Globals.length))=c1 at b1 ⊢
     generalize decide (0<=Fm m.Globals m.Init)=c2 at b1 ⊢
     generalize (decide (32<m.Shapes.length)||decide (32<m.Chans.length))=c3 at b1 ⊢
     generalize decide (0<=Gy m)=c4 at b1 ⊢
     generalize decide (0<=I2 m)=c5 at b1 ⊢
     generalize (decide (m.Procs.length<1)||(decide (16<m.Procs.length)||(decide (m.Claim < -1)||(decide ((m.Procs.length:Int)<=m.Claim)||decide (4096<m.Exprs.length)))))=c6 at b1 ⊢
     generalize decide (0<=H7 m)=c7 at b1 ⊢
     cases c1<;>cases c2<;>cases c3<;>cases c4<;>cases c5<;>cases c6<;>cases c7<;>simp at b1 ⊢
structure Ah0 (m:D.Model):Prop where
 globals:m.Globals.length<=128
 init:m.Init.length=m.Globals.length
 types:Fm m.Globals m.Init<0
 shapes:m.Shapes.length<=32
 chans:m.Chans.length<=32
 shape:∀ i,i<m.Shapes.length->D6 (m.Shapes.getD i default)=true
 chan:∀ i,i<m.Chans.length->inP m.Shapes.length (m.Chans.getD i 0)=true
 procs:1<=m.Procs.length/\m.Procs.length<=16
 claim:-1<=m.Claim/\m.Claim<m.Procs.length
 exprs:m.Exprs.length<=4096
theorem Pp {m:D.Model}(h:CV m=(0,0)):Ah0 m:=by
 unfold CV at h
 cases c1:(decide (128<m.Globals.length)||!decide (m.Init.length=m.Globals.length)) with
 | true=>rw[c1,AkQ]at h;simp at h
 | false =>
 cases c2:decide (0<=Fm m.Globals m.Init) with
 | true=>rw[c1,c2,AkN,AkQ]at h;simp at h
 | false =>
 cases c3:(decide (32<m.Shapes.length)||decide (32<m.Chans.length)) with
 | true=>rw[c1,c2,c3,AkN,AkN,AkQ]at h;simp at h
 | false =>
 cases c4:decide (0<=Gy m) with
 | true=>rw[c1,c2,c3,c4,AkN,AkN,AkN,AkQ]at h;simp at h
 | false =>
 cases c5:decide (0<=I2 m) with
 | true=>rw[c1,c2,c3,c4,c5,AkN,AkN,AkN,AkN,AkQ]at h;simp at h
 | false =>
 cases c6:(decide (m.Procs.length<1)||(decide (16<m.Procs.length)||(decide (m.Claim < -1)||(decide ((m.Procs.length:Int)<=m.Claim)||decide (4096<m.Exprs.length))))) with
 | true=>rw[c1,c2,c3,c4,c5,c6,AkN,AkN,AkN,AkN,AkN,AkQ]at h;simp at h
 | false =>
 simp only[Ald,Alq,AmN,AkS]at c1 c2 c3 c4 c5 c6
 exact⟨by omega,c1.2,by omega,by omega,by omega,Hd (f:=fun i=>D6 (m.Shapes.getD i default)) (by unfold Gy at c4;omega),Hd (f:=fun i=>inP m.Shapes.length (m.Chans.getD i 0)) (by unfold I2 at c5;omega),by omega,by omega,by omega⟩
theorem DW {m:D.Model}(h:E5 m=-1):∀ i,i<m.Procs.length->Dk (m.Procs.getD i default)=true/\EE (m.Procs.getD i default)=true:=fun i hi=>by
 have:=Hd (f:=fun i=>!Eb m i) (by unfold E5 at h;omega) i hi
 unfold Eb at this
 simp only[Amn,Ald,AmN]at this
 exact⟨this.1,this.2.1⟩
theorem G3 {m:D.Model}(h:Dt m=true):Lim m:=by
 obtain⟨h1,h2,_⟩:=Cz h
 have ht:=Pp h1
 refine⟨fun k h0 hk=>?_,fun k h0 hk=>?_,ht.procs.1,ht.claim.2⟩
 ·have:=ht.shape k.toNat (by omega)
  unfold D6 at this
  simp only[AkO,AkS]at this
  exact this.1.1.1.2
 ·have:=(DW h2 k.toNat (by omega)).2
  unfold EE at this
  simp only[AkO,AkS]at this
  exact this.1.1.1.2
structure Fit (s:D.State):Prop where
 g:s.Globals.length<=128
 c:s.Chans.length<=32
 q:∀ c∈s.Chans,c.Queue.length<=16/\∀ x∈c.Queue,x.length<=8
 p:s.Procs.length<=16
 f:∀ p∈s.Procs,p.Frame.length<=128
theorem EK {t:List D.Type}{l:List Int}(h:BE t l=true):l.length=t.length:=by
 unfold BE at h
 simp only[AkO,AkS]at h
 exact h.1.symm
theorem Tt {m:D.Model}{s:D.State}(hmay:Dt m=true)(h:DJ m s=true):Fit s:=by
 have hm:=G3 hmay
 obtain⟨ht1,ht2,_⟩:=Cz hmay
 have ht:=Pp ht1
 unfold DJ at h
 simp only[AkO]at h
 obtain⟨⟨⟨h1,h2⟩,h3⟩,h4⟩:=h
 unfold K6 at h1
 simp only[AkO,AkS]at h1
 obtain⟨⟨⟨⟨⟨⟨g1,g2⟩,g3⟩,g4⟩,g5⟩,g6⟩,g7⟩:=h1
 refine⟨?_,g2,fun c hc=>?_,g3,fun p hp=>?_⟩
 ·rw[EK g1];exact ht.globals
 ·have h:=(Cm (d:=default) (f:=fun c=>Dg m c)).1 h2 c hc
  unfold Dg at h
  simp only[AkO,AkS]at h
  have hi:=CF.1 h.1.1
  have hr:=hm.room _ hi.1 hi.2
  refine⟨by omega,fun x hx=>?_⟩
  have hq:=(Cm (d:=[]) (f:=fun x=>BE (BU m c.Shape).Fields x)).1 h.2 x hx
  rw[EK hq]
  have:=ht.shape c.Shape.toNat (by omega)
  unfold D6 at this
  simp only[AkO,AkS]at this
  exact this.1.2
 ·have h:=(Cm (d:=default) (f:=fun c=>A2 m c)).1 h3 p hp
  unfold A2 D0 at h
  simp only[AkO,AkS]at h
  rw[EK h.2]
  have:=(DW ht2 p.Type_.toNat (by omega)).1
  unfold Dk at this
  simp only[AkO,AkS]at this
  exact this.1.1.1.1.1.1.1.1
def Lm (f:FuncId):Shp:=bif Nat.beq f 38 then Aa2 else Bk f
def Nz : Ann:={ keep:=fun
  | [0,1,0,1,1]=>[0,12,13,14]
  | _=>[] }
def Kd : Ann:={ keep:=fun
  | [0,1,0,1,1]=>[2,3,32,33,34]
  | _=>[] }
def Hh : Ann:={ keep:=fun
  | [0,1,0,1,1]=>[2,3,51,52,53]
  | [0,1,0,1,1,1]=>[2,3,63,64,65]
  | _=>[] }
def Om (t:List D.Type)(l:List Int)(k:Int):St:=Aq [(0,AJ true t),(12,Ad true l),(13,Aa l.length),(14,Aa k)] []
def Kr (m:D.Model)(c:D.Chan)(k:Int):St:=Aq [(2,.bp 0 0),(3,.bp 1 0),(32,BL true c.Queue),(33,Aa c.Queue.length),(34,Aa k)] [.box (Ae m),.box (AL c)]
def Ov (m:D.Model)(s:D.State)(k:Int):St:=Aq [(2,.bp 0 0),(3,.bp 1 0),(51,Az false s.Chans),(52,Aa s.Chans.length),(53,Aa k)] [.box (Ae m),.box (K8 false s)]
def Ou (m:D.Model)(s:D.State)(k:Int):St:=Aq [(2,.bp 0 0),(3,.bp 1 0),(63,Ap false s.Procs),(64,Aa s.Procs.length),(65,Aa k)] [.box (Ae m),.box (K8 false s)]
set_option maxRecDepth 100000
theorem AaC (b:Bool)(t:List D.Type)(l:List Int):(fc Lm Nz Tryz.f76 [] (Ac b)).goal (St.init [] [AJ true t,Ad true l]) =
  (BB ((↑t.length:Int) != (↑l.length:Int)) (LQ (Ac false) (Ac b)) (AB (fc Lm Nz Tryz.f76 [] (Ac b)) [1,1,0,1,0] (Om t l (0:Int)))):=by kernel_rfl
theorem VG (b:Bool)(m:D.Model)(c:D.Chan):(fc Lm Kd Tryz.f77 [] (Ac b)).goal (St.init [] [.agg (Ae m),.agg (AL c)]) =
  (((true&&(bif decide (c.Shape<0) then true else decide (c.Shape>=(↑m.Shapes.length:Int)))==false)=true->inX c.Shape m.Shapes.length)/\BB (bif bif decide (c.Shape<0) then true else decide (c.Shape>=(↑m.Shapes.length:Int)) then true else decide ((↑c.Queue.length:Int) > (m.Shapes.getD c.Shape.toNat default).Room)) (LQ (Ac false) (Ac b)) (AB (fc Lm Kd Tryz.f77 [] (Ac b)) [1,1,0,1,0] (Kr m c (0:Int)))):=by kernel_rfl
theorem UL (b:Bool)(m:D.Model)(p:D.Process):(fc Lm AM Tryz.f78 [] (Ac b)).goal (St.init [] [.agg (Ae m),.agg (As p)]) =
  (BB (bif bif decide (p.Type_<0) then true else decide (p.Type_>=(↑m.Procs.length:Int)) then true else p.Type_==m.Claim) (LQ (Ac false) (Ac b)) (inX p.Type_ m.Procs.length/\∃ (y:Bool),((true&&(bif bif decide (p.Loc>=0) then decide (p.Loc<(↑(m.Procs.getD p.Type_.toNat default).Locs.length:Int)) else false then p.Prio==(m.Procs.getD p.Type_.toNat default).Prio else false)==true)=true->VC 76 [AJ true (m.Procs.getD p.Type_.toNat default).Frame,Ad true p.Frame] (Ac y))/\LQ (Ac (bif bif bif decide (p.Loc>=0) then decide (p.Loc<(↑(m.Procs.getD p.Type_.toNat default).Locs.length:Int)) else false then p.Prio==(m.Procs.getD p.Type_.toNat default).Prio else false then y else false)) (Ac b))):=by kernel_rfl
theorem WU (b:Bool)(m:D.Model)(s:D.State):(fc Lm Hh Tryz.f54 [] (Ac b)).goal (St.init [] [.agg (Ae m),.agg (K8 false s)]) =
  (∃ (y:Bool),VC 76 [AJ true m.Globals,Ad true s.Globals] (Ac y)/\BB (bif bif bif bif bif bif !y then true else decide ((↑s.Chans.length:Int) > 32) then true else decide ((↑s.Procs.length:Int) > 16) then true else decide (s.Last<0) then true else decide (s.Last>=16) then true else decide (s.Alone<(-1:Int)) then true else decide (s.Alone>=(↑s.Procs.length:Int))) (LQ (Ac false) (Ac b)) (AB (fc Lm Hh Tryz.f54 [] (Ac b)) [1,1,0,1,0] (Ov m s (0:Int)))):=by kernel_rfl
theorem AgR (b:Bool)(m:D.Model):(fc Lm AM Tryz.f23 [] (Ac b)).goal (St.init [] [.agg (Ae m)]) =
  (∃ (y:Int × Int × Int),VC 36 [VV.agg (Ae m)] (VV.tup [Aa y.fst,Aa y.snd.fst,Aa y.snd.snd])/\LQ (Ac (y.fst==0)) (Ac b)):=by kernel_rfl
theorem Ut (r:Int)(m:D.Model)(s:D.State):(fc Lm AM Tryz.f38 [] (Aa r)).goal (St.init [] [.agg (Ae m),.agg (Af s)]) =
  (∃ (y:Bool),VC 23 [VV.agg (Ae m)] (Ac y)/\BB (!y) (LQ (Aa 40) (Aa r)) (∃ (y:Bool),VC 54 [VV.agg (Ae m),VV.agg (Af s)] (Ac y)/\BB (!y) (LQ (Aa 41) (Aa r)) (LQ (Aa 0) (Aa r)))):=by kernel_rfl
theorem WH (b:Bool)(t:List D.Type)(l:List Int)(k:Int)(J:St->Prop):((fc Lm Nz Tryz.f76 [] (Ac b)).loop [1,1,0,1,0] J).goal (Om t l k) =
  (BB (decide (k<(↑l.length:Int))) (inX k l.length/\inX k t.length/\∃ (y:Bool),VC 107 [VV.agg (Dz (t.getD k.toNat default)),Aa (l.getD k.toNat 0)] (Ac y)/\BB (!y) (LQ (Ac false) (Ac b)) (J (Om t l (IntKind.i64.wrap (k+(1:Int)))))) (LQ (Ac true) (Ac b))):=by kernel_rfl
theorem TA (b:Bool)(m:D.Model)(c:D.Chan)(k:Int)(J:St->Prop):((fc Lm Kd Tryz.f77 [] (Ac b)).loop [1,1,0,1,0] J).goal (Kr m c k) =
  (BB (decide (k<(↑c.Queue.length:Int))) (inX k c.Queue.length/\inX c.Shape m.Shapes.length/\∃ (y:Bool),VC 76 [AJ true (m.Shapes.getD c.Shape.toNat default).Fields,Ad true (c.Queue.getD k.toNat [])] (Ac y)/\BB (!y) (LQ (Ac false) (Ac b)) (J (Kr m c (IntKind.i64.wrap (k+(1:Int)))))) (LQ (Ac true) (Ac b))):=by kernel_rfl
theorem Us (b:Bool)(m:D.Model)(s:D.State)(k:Int)(J:St->Prop):((fc Lm Hh Tryz.f54 [] (Ac b)).loop [1,1,0,1,0] J).goal (Ov m s k) =
  (BB (decide (k<(↑s.Chans.length:Int))) (inX k s.Chans.length/\∃ (y:Bool),VC 77 [VV.agg (Ae m),VV.agg (AL (s.Chans.getD k.toNat default))] (Ac y)/\BB (!y) (LQ (Ac false) (Ac b)) (J (Ov m s (IntKind.i64.wrap (k+(1:Int)))))) (AB (fc Lm Hh Tryz.f54 [] (Ac b)) [1,1,1,0,1,0] (Ou m s (0:Int)))):=by kernel_rfl
theorem Ur (b:Bool)(m:D.Model)(s:D.State)(k:Int)(J:St->Prop):((fc Lm Hh Tryz.f54 [] (Ac b)).loop [1,1,1,0,1,0] J).goal (Ou m s k) =
  (BB (decide (k<(↑s.Procs.length:Int))) (inX k s.Procs.length/\∃ (y:Bool),VC 78 [VV.agg (Ae m),VV.agg (As (s.Procs.getD k.toNat default))] (Ac y)/\BB (!y) (LQ (Ac false) (Ac b)) (J (Ou m s (IntKind.i64.wrap (k+(1:Int)))))) (BB (decide (m.Claim<0)) (LQ (Ac (s.Claim==(-1:Int))) (Ac b)) (((true&&decide (s.Claim>=0)==true)=true->inX m.Claim m.Procs.length)/\LQ (Ac (bif decide (s.Claim>=0) then decide (s.Claim<(↑(m.Procs.getD m.Claim.toNat default).Locs.length:Int)) else false)) (Ac b)))):=by kernel_rfl
end Go.Proofs.YtmdcknlpalfhhaaGreatDoor
namespace Go.Proofs.YtmdcknlpalfhhaaGreatDoor
open Go.RowKit
theorem Zs {xs ys:List VV}(hl:ys.length=xs.length)(h:∀ (j:Nat) x y,xs[j]?=some x->ys[j]?=some y->leS x y):leS (.agg xs) (.agg ys):=by
 intro w E m v hE hv
 obtain⟨vs,rfl,h1,h2⟩:=hv.agg_inv
 refine .agg (h1.trans hl.symm) fun j y hy=>?_
 have hj:j<xs.length:=by rw[← hl];exact(AkR.1 hy).1
 exact h j _ y (Ak1 hj) hy w E m _ hE (h2 j _ (Ak1 hj))
theorem FO {k:Nat}{P:Nat->Prop}(hI:∀ i,i<k->P i)(h:P k):∀ i,i<k+1->P i:=fun i hi=>by
 rcases Alr.1 hi with h' | rfl
 ·exact hI i h'
 ·exact h
def Len (n:Nat):Prop:=n<=1099511627776
theorem Lj {t:List D.Type}{l:List Int}(hl:Len l.length):Aj Tryz.prog 76 [] [AJ true t,Ad true l] [] (Ac (BE t l)):=by
 unfold Len at hl
 refine Ah Al Am Tryz.func76 (by kernel_rfl) rfl (AaC _ t l) ⟨fun h=>AG ?_,fun h=>?_⟩
 ·unfold BE
  have:decide (t.length=l.length)=false:=by simp at h;simp;omega
  rw[this,Bool.false_and]
 ·have hlen:t.length=l.length:=by simp at h;omega
  have e:BE t l=D4 l.length fun i=>DF (t.getD i default) (l.getD i 0):=by unfold BE;rw[show decide (t.length=l.length)=true by simpa using hlen,AlI]
  rw[e]
  refine AS Al Am l.length (fun k=>Om t l k) (fun k=>∀ i,i<k->DF (t.getD i default) (l.getD i 0)=true) (by kernel_rfl) (by kernel_rfl) (fun i hi=>by omega) ?_
  intro k hk hI J next
  refine Ali (WH _ t l k J) ⟨fun hlt=>?_,fun hge=>AG ?_⟩
  ·have hlt':k<l.length:=by have:=A3 hlt;omega
   refine⟨⟨by omega,by omega⟩,⟨by omega,by omega⟩,DF (t.getD k default) (l.getD k 0),Np _ _,fun hy=>AG ?_,fun hy=>next _ hlt' (FO hI (by simpa using hy)) (Up.of ?_)⟩
   ·exact(Dh (f:=fun i=>DF (t.getD i default) (l.getD i 0)) hlt' (by simpa using hy)).symm
   ·rw[An (by omega)]<;>rfl
  ·have hge':l.length<=k:=by have:=A5 hge;omega
   exact(Bx.2 fun i hi=>hI i (by omega)).symm
structure AfJ (c:D.Chan):Prop where
 q:Len c.Queue.length
 m:∀ x∈c.Queue,Len x.length
theorem Tz {m:D.Model}{c:D.Chan}(hc:AfJ c):Aj Tryz.prog 77 [] [.agg (Ae m),.agg (AL c)] [] (Ac (Dg m c)):=by
 have hq:=hc.q
 unfold Len at hq
 refine Ah Al Am Tryz.func77 (by kernel_rfl) rfl (VG _ m c) ⟨fun h=>?_,fun h=>AG ?_,fun h=>?_⟩
 ·simp at h;omega
 ·symm;rw[AlM];intro hcc
  unfold Dg at hcc
  simp only[AkO,AkS]at hcc
  have:=CF.1 hcc.1.1
  have hr:(BU m c.Shape).Room=(m.Shapes.getD c.Shape.toNat default).Room:=rfl
  rw[hr]at hcc
  generalize (m.Shapes.getD c.Shape.toNat default).Room=rm at h hcc
  simp at h;omega
 ·have hs:0<=c.Shape/\c.Shape<m.Shapes.length/\(c.Queue.length:Int)<=(BU m c.Shape).Room:=by
   have hr:(BU m c.Shape).Room=(m.Shapes.getD c.Shape.toNat default).Room:=rfl
   rw[hr]
   generalize (m.Shapes.getD c.Shape.toNat default).Room=rm at h ⊢
   simp at h;omega
  have e:Dg m c=D4 c.Queue.length fun i=>BE (BU m c.Shape).Fields (c.Queue.getD i []):=by
   unfold Dg
   rw[CF.2 ⟨hs.1,hs.2.1⟩,show decide ((c.Queue.length:Int)<=(BU m c.Shape).Room)=true by simpa using hs.2.2]<;>rfl
  rw[e]
  refine AS Al Am c.Queue.length (fun k=>Kr m c k) (fun k=>∀ i,i<k->BE (BU m c.Shape).Fields (c.Queue.getD i [])=true) (by kernel_rfl) (by kernel_rfl) (fun i hi=>by omega) ?_
  intro k hk hI J next
  refine Ali (TA _ m c k J) ⟨fun hlt=>?_,fun hge=>AG ?_⟩
  ·have hlt':k<c.Queue.length:=by have:=A3 hlt;omega
   refine⟨⟨by omega,by omega⟩,⟨hs.1,hs.2.1⟩,BE (BU m c.Shape).Fields (c.Queue.getD k []),Lj (hc.m _ (Aw hlt')),fun hy=>AG ?_,fun hy=>next _ hlt' (FO hI (by simpa using hy)) (Up.of ?_)⟩
   ·exact(Dh (f:=fun i=>BE (BU m c.Shape).Fields (c.Queue.getD i [])) hlt' (by simpa using hy)).symm
   ·rw[An (by omega)]<;>rfl
  ·have hge':c.Queue.length<=k:=by have:=A5 hge;omega
   exact(Bx.2 fun i hi=>hI i (by omega)).symm
theorem SX {m:D.Model}{p:D.Process}(hp:Len p.Frame.length):Aj Tryz.prog 78 [] [.agg (Ae m),.agg (As p)] [] (Ac (A2 m p)):=by
 have hpr:(A9 m p.Type_)=m.Procs.getD p.Type_.toNat default:=rfl
 refine Ah Al Am Tryz.func78 (by kernel_rfl) rfl (UL _ m p) ⟨fun h=>AG ?_,fun h=>⟨?_,BE (A9 m p.Type_).Frame p.Frame,fun _=>Lj hp,AG ?_⟩⟩
 ·unfold A2 D0
  have:(decide (0<=p.Type_)&&decide (p.Type_<m.Procs.length)&&decide (p.Type_≠m.Claim))=false:=by
   rw[AlM];intro hc;simp at hc h;omega
  rw[this]<;>rfl
 ·simp at h;omega
 ·unfold A2 D0 inP
  have:(decide (0<=p.Type_)&&decide (p.Type_<m.Procs.length)&&decide (p.Type_≠m.Claim))=true:=by simp at h ⊢;omega
  rw[this,AlI,← hpr]
  simp only[ieq,A8,Amk]
structure Be (s:D.State):Prop where
 g:Len s.Globals.length
 c:Len s.Chans.length
 p:Len s.Procs.length
 cs:∀ c∈s.Chans,AfJ c
 ps:∀ p∈s.Procs,Len p.Frame.length
theorem Sz {m:D.Model}{s:D.State}(hs:Be s)(hcl:m.Claim<m.Procs.length):Aj Tryz.prog 54 [] [.agg (Ae m),.agg (K8 false s)] [] (Ac (DJ m s)):=by
 have hc:=hs.c
 have hp:=hs.p
 unfold Len at hc hp
 have ht:(bif bif bif bif bif bif !(BE m.Globals s.Globals) then true else decide ((s.Chans.length:Int) > 32) then true else decide ((s.Procs.length:Int) > 16) then true else decide (s.Last<0) then true else decide (s.Last>=16) then true else decide (s.Alone<(-1:Int)) then true else decide (s.Alone>=(s.Procs.length:Int)))=!(K6 m s):=by
  unfold K6
  cases BE m.Globals s.Globals
  ·rfl
  ·rw[Alc];simp;omega
 refine Ah Al Am Tryz.func54 (by kernel_rfl) rfl (WU _ m s) ⟨BE m.Globals s.Globals,Lj hs.g,?_⟩
 rw[ht]
 have e0:DJ m s=(K6 m s&&(D4 s.Chans.length fun i=>Dg m (s.Chans.getD i default))&&(D4 s.Procs.length fun i=>A2 m (s.Procs.getD i default))&&GD m s):=rfl
 generalize DJ m s=b at e0 ⊢
 refine⟨fun h=>AG ?_,fun h=>?_⟩
 ·rw[show K6 m s=false by simpa using h]at e0;rw[e0]<;>rfl
 rw[show K6 m s=true by simpa using h,AlI]at e0
 refine AS Al Am s.Chans.length (fun k=>Ov m s k) (fun k=>∀ i,i<k->Dg m (s.Chans.getD i default)=true) (by kernel_rfl) (by kernel_rfl) (fun i hi=>by omega) ?_
 intro k hk hI J next
 refine Ali (Us _ m s k J) ⟨fun hlt=>?_,fun hge=>?_⟩
 ·have hlt':k<s.Chans.length:=by have:=A3 hlt;omega
  refine⟨⟨by omega,by omega⟩,Dg m (s.Chans.getD k default),Tz (hs.cs _ (Aw hlt')),fun hy=>AG ?_,fun hy=>next _ hlt' (FO hI (by simpa using hy)) (Up.of ?_)⟩
  ·rw[Dh (f:=fun i=>Dg m (s.Chans.getD i default)) hlt' (by simpa using hy)]at e0
   rw[e0]<;>rfl
  ·rw[An (by omega)]<;>rfl
 have hge':s.Chans.length<=k:=by have:=A5 hge;omega
 rw[(Bx (n:=s.Chans.length) (f:=fun i=>Dg m (s.Chans.getD i default))).2 fun i hi=>hI i (by omega),AlI]at e0
 clear hI next
 refine AS Al Am s.Procs.length (fun k=>Ou m s k) (fun k=>∀ i,i<k->A2 m (s.Procs.getD i default)=true) (by kernel_rfl) (by kernel_rfl) (fun i hi=>by omega) ?_
 intro k hk hI J next
 refine Ali (Ur _ m s k J) ⟨fun hlt=>?_,fun hge=>?_⟩
 ·have hlt':k<s.Procs.length:=by have:=A3 hlt;omega
  refine⟨⟨by omega,by omega⟩,A2 m (s.Procs.getD k default),SX (hs.ps _ (Aw hlt')),fun hy=>AG ?_,fun hy=>next _ hlt' (FO hI (by simpa using hy)) (Up.of ?_)⟩
  ·rw[Dh (f:=fun i=>A2 m (s.Procs.getD i default)) hlt' (by simpa using hy)]at e0
   rw[e0]<;>rfl
  ·rw[An (by omega)]<;>rfl
 have hge':s.Procs.length<=k:=by have:=A5 hge;omega
 rw[(Bx (n:=s.Procs.length) (f:=fun i=>A2 m (s.Procs.getD i default))).2 fun i hi=>hI i (by omega),AlI]at e0
 unfold GD at e0
 refine⟨fun h2=>AG ?_,fun h2=>⟨fun _=>⟨?_,hcl⟩,AG ?_⟩⟩
 ·rw[h2,AkQ]at e0;rw[e0,ieq]
 ·have:=Ak6 h2;omega
 ·rw[h2,AkN]at e0
  rw[e0,A8]<;>rfl
theorem Uq {m:D.Model}{s:D.State}(hs:Be s)(hcl:m.Claim<m.Procs.length):Aj Tryz.prog 54 [] [.agg (Ae m),.agg (Af s)] [] (Ac (DJ m s)):=by
 refine(Sz hs hcl).frz rfl fun j x y hx hy=>?_
 match j,hx,hy with
 | 0,hx,hy=>simp only[AkZ,AkP]at hx hy;subst hx hy;exact Dv _
 | 1,hx,hy =>
  simp only[AlA,AkZ,AkP]at hx hy
  subst hx hy
  refine Zs rfl fun j x y hx hy=>?_
  match j,hx,hy with
  | 0,hx,hy=>simp only[Af,K8,AkZ,AkP]at hx hy;subst hx hy;exact Dv _
  | 1,hx,hy=>simp only[Af,K8,AlA,AkZ,AkP]at hx hy;subst hx hy;exact P9
  | 2,hx,hy=>simp only[Af,K8,AlA,AkZ,AkP]at hx hy;subst hx hy;exact P9
  | 3,hx,hy=>simp only[Af,K8,AlA,AkZ,AkP]at hx hy;subst hx hy;exact Dv _
  | 4,hx,hy=>simp only[Af,K8,AlA,AkZ,AkP]at hx hy;subst hx hy;exact Dv _
  | 5,hx,hy=>simp only[Af,K8,AlA,AkZ,AkP]at hx hy;subst hx hy;exact Dv _
  | j+6,hx,hy=>simp[Af]at hx
 | j+2,hx,hy=>simp at hx
theorem Mx {m:D.Model}(hw:Av m):Aj Tryz.prog 23 [] [.agg (Ae m)] [] (Ac (Dt m)) :=
 Ah Al Am Tryz.func23 (by kernel_rfl) rfl (AgR _ m) ⟨I1 m,Yh hw,AG (ieq _ _)⟩
theorem Gx {m:D.Model}{s:D.State}(hw:Av m)(hs:Be s)(hcl:Dt m=true->m.Claim<m.Procs.length):Aj Tryz.prog 38 [] [.agg (Ae m),.agg (Af s)] [] (Aa (Ci m s)):=by
 refine Ah Al Am Tryz.func38 (by kernel_rfl) rfl (Ut _ m s) ⟨Dt m,Mx hw,fun h=>C4 ?_,fun h=>⟨DJ m s,Uq hs (hcl (by simpa using h)),fun h2=>C4 ?_,fun h2=>C4 ?_⟩⟩
 ·unfold Ci;rw[show Dt m=false by simpa using h]<;>rfl
 ·unfold Ci;rw[show Dt m=true by simpa using h,show DJ m s=false by simpa using h2]<;>rfl
 ·unfold Ci;rw[show Dt m=true by simpa using h,show DJ m s=true by simpa using h2]<;>rfl
theorem Fit.small {s:D.State}(h:Fit s):Be s:=by
 have hg:=h.g
 have hc:=h.c
 have hp:=h.p
 refine⟨by unfold Len;omega,by unfold Len;omega,by unfold Len;omega,fun c hc=>⟨by have:=(h.q c hc).1;unfold Len;omega,fun x hx=>by have:=(h.q c hc).2 x hx;unfold Len;omega⟩,fun p hp=>by have:=h.f p hp;unfold Len;omega⟩
theorem LI {m:D.Model}{s:D.State}(h:Ci m s=0):Dt m=true/\DJ m s=true:=by
 unfold Ci at h
 cases h1:Dt m<;>cases h2:DJ m s<;>simp[h1,h2]at h ⊢
structure Cb (w w':World) (F:Nat->Prop):Prop where
 os:w'.os=w.os
 tape:w'.tape=w.tape
 output:w'.output=w.output
 size:w.heap.size<=w'.heap.size
 block:∀ k,k<w.heap.size->¬ F k->w'.heap[k]?=w.heap[k]?
theorem Cb.refl (w:World)(F:Nat->Prop):Cb w w F:=⟨rfl,rfl,rfl,AkU _,fun _ _ _=>rfl⟩
theorem Cb.alloc {w w':World}{F:Nat->Prop}(h:Cb w w' F)(o:Obj):Cb w (w'.alloc o) F :=
 ⟨h.os,h.tape,h.output,Alg h.size (by simp),fun k hk hn=>(Below.heap_alloc w' o k (Ale hk h.size)).trans (h.block k hk hn)⟩
theorem Cb.setCell {w w':World}{F:Nat->Prop}(h:Cb w w' F){p:Addr}(hp:F p.block∨w.heap.size<=p.block)(u:Value):Cb w (w'.setCell p u) F :=
 ⟨h.os,h.tape,h.output,by simpa[World.setCell] using h.size,fun k hk hn =>
  (Below.heap_setCell w' p u k (by rintro rfl;rcases hp with hp | hp;exact hn hp;omega)).trans (h.block k hk hn)⟩
theorem Cb.grown {w w' w'':World}{F:Nat->Prop}{row:Option Nat}(h:Cb w w' F)(hg:w'.grownBy w'' row)(hr:∀ k,row=some k->F k∨w.heap.size<=k):Cb w w'' F :=
 ⟨hg.os.trans h.os,hg.tape.trans h.tape,hg.output.trans h.output,Alg h.size hg.size,fun k hk hn =>
  (hg.block k (Ale hk h.size) (fun e=>by rcases hr k e.symm with h1 | h1;exact hn h1;omega)).trans (h.block k hk hn)⟩
theorem Cb.trans {a b c:World}{F G:Nat->Prop}(h:Cb a b F)(k:Cb b c G)(hG:∀ i,G i->F i∨a.heap.size<=i):Cb a c F :=
 ⟨k.os.trans h.os,k.tape.trans h.tape,k.output.trans h.output,Alg h.size k.size,fun i hi hn =>
  (k.block i (Ale hi h.size) (fun hg=>by rcases hG i hg with h1 | h1;exact hn h1;omega)).trans (h.block i hi hn)⟩
theorem Cb.below {w w':World}{F:Nat->Prop}{B:Nat}(h:Cb w w' F)(hB:B<=w.heap.size)(hF:∀ k,F k->B<=k):Below B w w' :=
 ⟨h.os,h.tape,h.output,h.size,fun k hk=>h.block k (Ale hk hB) (fun hf=>by have:=hF k hf;omega)⟩
theorem Cb.of_below {w w':World}{F:Nat->Prop}(h:Below w.heap.size w w'):Cb w w' F :=
 ⟨h.os,h.tape,h.output,h.size,fun k hk _=>h.block k hk⟩
theorem CE {w w':World}{base:Nat}{e:TypeId}{size:Nat}{v:Value}{n:Nat}{xs:List Value}(h:w.ownsRow base e size v n xs)
  (hs:∀ k,v.ownBlock=some k->w'.heap[k]?=w.heap[k]?):w'.ownsRow base e size v n xs:=by
 refine⟨h.1,?_⟩
 rcases h.2 with hn | ⟨g,cap,cur,rfl,hb,hg,rest⟩
 ·exact .inl hn
 ·exact .inr ⟨g,cap,cur,rfl,hb,by rw[hs g rfl];exact hg,rest⟩
theorem AW {w:World}{base:Nat}{e:TypeId}{size:Nat}{v:Value}{n:Nat}{xs:List Value}(h:w.ownsRow base e size v n xs){k:Nat}(hk:v.ownBlock=some k):∃ cur,w.heap[k]?=some (.cells cur e (0,0)):=by
 rcases h.2 with⟨rfl,_⟩ | ⟨g,cap,cur,rfl,hb,hg,rest⟩
 ·simp[Value.ownBlock]at hk
 ·simp[Value.ownBlock]at hk;subst hk;exact⟨cur,hg⟩
theorem BO {w:World}{b:Nat}{o:Obj}(h:w.heap[b]?=some o):b<w.heap.size:=lt_of_block h
theorem Ef {w:World}{a b:Nat}{c d:Array Value}{s t:TypeId}{f g:Nat × Nat}(ha:w.heap[a]?=some (.cells c s f))(hb:w.heap[b]?=some (.cells d t g))(hst:s≠t):a≠b:=by
 rintro rfl;rw[ha]at hb;simp at hb;exact hst hb.2.1
theorem Ai {w:World}{b i:Nat}{cs:Array Value}{t:TypeId}{v:Value}(h:w.heap[b]?=some (.cells cs t (0,0)))(hi:cs[i]?=some v):w.cell? ⟨b,i,none⟩=some v:=by
 simp[World.cell?,h,hi]
theorem Ay {w:World}{b i:Nat}{cs:Array Value}{t:TypeId}(h:w.heap[b]?=some (.cells cs t (0,0))):w.frozen? ⟨b,i,none⟩=false:=by
 simp[World.frozen?,h]
theorem A1 {w:World}{b i:Nat}{cs:Array Value}{t:TypeId}(h:w.heap[b]?=some (.cells cs t (0,0)))(u:Value):(w.setCell ⟨b,i,none⟩ u).heap[b]?=some (.cells (cs.setIfInBounds i u) t (0,0)) :=
 heap_setCell_same w b i cs t u h
theorem B8 {P:Program}{t:TypeId}{z:Value}{s b:Nat}(h:(P.info? t).map (fun i=>(i.zero,i.size,i.bytes))=some (some z,s,b)):∃ i,P.info? t=some i/\i.zero=some z/\i.size=s/\i.bytes=b:=by
 cases hi:P.info? t with
 | none=>rw[hi]at h;cases h
 | some i=>rw[hi]at h;simp only[Ams,AkP,Alu]at h;exact⟨i,rfl,h⟩
theorem JN : (Tryz.prog.info? 2).map (fun i=>(i.zero,i.size,i.bytes))=some (some (.int .i64 0),1,8):=by kernel_rfl
theorem Ek {w:World}{n0:Nat}{e:TypeId}{v:Value}{n:Nat}{xs:List Value}(h:w.ownsRow n0 e 1 v n xs) :
  ∃ ao cap,v=.slice ao n cap/\n<=cap/\cap<=maxLen/\(0<n->∃ g,ao=some ⟨g,0,none⟩/\n0<=g/\g<w.heap.size/\∀ j,j<n->w.cell? ⟨g,j,none⟩=xs[j]?):=by
 rcases h.2 with⟨rfl,rfl⟩ | ⟨g,cap,cur,rfl,hb,hg,h1,h2,_⟩
 ·exact⟨none,0,rfl,AkU _,AkV _,fun h=>by omega⟩
 ·exact⟨_,cap,rfl,h1,h2,fun _=>⟨g,rfl,hb,BO hg,fun j hj=>h.cellAt j (by omega)⟩⟩
theorem Ud {w:World}{E:AF}{m:Option Phi}{n0:Nat}{v:Value}{xs:List Int}(h:w.ownsRow n0 2 1 v xs.length (xs.map (Value.int .i64)))(hA:∀ k,E.fz k->k<n0):V w E m (Ad true xs) v:=by
 obtain⟨ao,cap,rfl,h1,h2,h3⟩:=Ek h
 refine AmF h1 h2 fun hp=>?_
 obtain⟨g,rfl,hg,hlt,hc⟩:=h3 hp
 refine⟨g,0,rfl,hlt,fun hk=>by have:=hA g hk;omega,fun i _=>rfl,fun i _=>.int .i64 (xs.getD i 0),fun i j y hi hy=>?_,fun i j y hi hy=>?_⟩
 ·match j,hy with
  | 0,_ =>
   have:=hc i hi
   simp only[Alk,Nat.mul_one,AlT]
   rw[this];simp[List.getD,hi]
  | j+1,hy=>simp at hy
 ·match j,hy with
  | 0,hy=>simp only[AkZ,AkP]at hy;subst hy;exact .sc
  | j+1,hy=>simp at hy
set_option maxHeartbeats 1000000 in
theorem F4 {w:World}{ao:Option Addr}{cap:Nat}{xs:List Int}(h1:xs.length<=cap)(h2:cap<=maxLen)(hr:xs.length*8<=140737488355328)(h3:0<xs.length->∃ a,ao=some a/\∀ i,i<xs.length->w.cell? (a.add i)=some (.int .i64 (xs.getD i 0))) :
  Calls Tryz.prog 24 #[.slice ao xs.length cap] w fun e w'=>∃ v',e=.returned v'/\w'.ownsRow w.heap.size 2 1 v' xs.length (xs.map (Value.int .i64))/\Below w.heap.size w w':=by
 have q22:∀ (w:World) (a:Option Addr) (n c n' c':Nat),(binOp .eql 23 (.slice a n c) (.slice none n' c')).run Tryz.prog w=.ok (.bool a.isNone) w:=fun w a n c n' c'=>Lib.run_eql_slice_nil w _ _ a n c n' c' Tryz.underlying23
 obtain⟨ki,khi,khz0,khz1,khz2⟩:=B8 JN
 cases ao with
 | none =>
  have h0:xs=[]:=by
   apply Alp
   apply Alf
   intro hp
   obtain⟨_,e,_⟩:=h3 (by omega)
   cases e
  subst h0
  clear h3
  go_enter Tryz.func24,Tryz.ntmps24
  go_wp2
  go_ret
  exact⟨_,rfl,World.ownsRow_nil _ _ _ _,Below.refl _ _⟩
 | some a =>
  have hn:∀ (j:Nat) (u:Value),(xs.map (Value.int .i64))[j]?=some u->w.cell? (a.add j)=some u:=by
   intro j u hj
   have hjl:j<xs.length:=by have:=(AkR.1 hj).1;simpa using this
   obtain⟨a',e,hc⟩:=h3 (by omega)
   simp only[AkP]at e
   subst e
   rw[hc j hjl,← hj];simp[List.getD,hjl]
  have HN:=Lib.hid hn
  clear h3 hn
  have hlen:=h2
  unfold maxLen at hlen
  go_enter Tryz.func24,Tryz.ntmps24
  go_wp2_with (at_builtin;refine wpList_append_own _ rfl _ _ 23 rfl w.heap.size 2 ki (.int .i64 0) 1 8 Tryz.underlying23 khi khz0 khz1 khz2 rfl (by decide) _ _ _ rfl (World.ownsRow_made w #[] 0 (AkU _) (AkV _) (by simp)) a xs.length cap (xs.map (Value.int .i64)) rfl ?qc1 ?qc2 ?qc3 ?qc4 ?qc5 ?qc6 ?_)
  case qc1=>simp
  case qc2=>intro j u hj;have:=HN.out j u hj;exact Lib.cell?_alloc_some _ this
  case qc3=>intro u hu;simp at hu;obtain⟨x,_,rfl⟩:=hu;rfl
  case qc4=>unfold maxLen;omega
  case qc5=>omega
  case qc6=>simp
  intro v' w1 hown hgrow _
  go_wp2
  go_ret
  exact⟨v',rfl,by simpa using hown,((Below.refl _ w).alloc (AkU _) _).grown hgrow (by simp) (by intro k hk;simp[Value.ownBlock]at hk;omega)⟩
theorem LH {xs:List Int}(hr:xs.length*8<=140737488355328):Aj Tryz.prog 24 [] [Ad true xs] [] (Ad true xs):=by
 refine Aj.hand ⟨_,Tryz.func24,rfl,by kernel_rfl⟩ fun w E vs hA hL _ _ hs=>?_
 obtain⟨u1,us1,rfl,v1,hs⟩:=hs.cons_inv
 obtain rfl:=hs.nil_inv
 obtain⟨ao,cap,rfl,h1,h2,h3⟩:=V.sl_inv v1
 refine(F4 h1 h2 hr fun hp=>?_).mono ?_
 ·obtain⟨b,off,rfl,_,_,_,u,hc,hv⟩:=h3 hp
  refine⟨_,rfl,fun i hi=>?_⟩
  have c1:=hc i 0 _ hi rfl
  have c2:=(hv i 0 _ hi rfl).sc_inv
  rw[Addr.add_lit]
  rw[c2]at c1
  simpa using c1
 ·rintro e w' ⟨v',rfl,ho,hb⟩
  exact⟨v',rfl,Ud ho hA,hb⟩
def C7 (f:FuncId):Shp :=
 bif Nat.beq f 93||Nat.beq f 193||Nat.beq f 172||Nat.beq f 37 then Aa2
 else bif Nat.beq f 61||Nat.beq f 183||Nat.beq f 132||Nat.beq f 169||Nat.beq f 171||Nat.beq f 130||Nat.beq f 131||Nat.beq f 134||Nat.beq f 129||Nat.beq f 170||Nat.beq f 135||Nat.beq f 94||Nat.beq f 174||Nat.beq f 175 then AhN
 else bif Nat.beq f 128 then W0
 else bif Nat.beq f 24||Nat.beq f 30 then Ain else Lm f
abbrev D3 : TypeId:=2
abbrev GZ : TypeId:=98
abbrev D2 : TypeId:=86
abbrev Es : TypeId:=88
abbrev BJ : TypeId:=35
theorem G6 : (Tryz.prog.info? GZ).map (fun i=>(i.zero,i.size,i.bytes))=some (some (.slice none 0 0),1,24):=by kernel_rfl
theorem Ab6 : (Tryz.prog.info? D2).map (fun i=>(i.zero,i.size,i.bytes))=some (some (.agg #[.int .i64 0,.slice none 0 0]),2,32):=by kernel_rfl
theorem Ab5 : (Tryz.prog.info? Es).map (fun i=>(i.zero,i.size,i.bytes))=some (some (.agg #[.int .i64 0,.int .i64 0,.int .i64 0,.slice none 0 0]),4,48):=by kernel_rfl
abbrev I8 (w:World)(n0:Nat)(v:Value)(xs:List Int):Prop:=w.ownsRow n0 D3 1 v xs.length (xs.map (Value.int .i64))
structure BT (w:World) (n0:Nat) (v:Value) (vs:List Value) (q:List (List Int)):Prop where
 row:w.ownsRow n0 GZ 1 v q.length vs
 len:vs.length=q.length
 each:∀ (i:Nat) (u:Value) (m:List Int),vs[i]?=some u->q[i]?=some m->I8 w n0 u m
def Fa : List D.Chan->List Value->List Value
 | c::cs,q::qs=>.int .i64 c.Shape::q::Fa cs qs
 | _,_=>[]
def DA : List D.Process->List Value->List Value
 | p::ps,f::fs=>.int .i64 p.Type_::.int .i64 p.Loc::.int .i64 p.Prio::f::DA ps fs
 | _,_=>[]
structure Hn (w:World) (n0:Nat) (v:Value) (qs:List Value) (cs:List D.Chan):Prop where
 row:w.ownsRow n0 D2 2 v cs.length (Fa cs qs)
 len:qs.length=cs.length
 each:∀ (i:Nat) (u:Value) (c:D.Chan),qs[i]?=some u->cs[i]?=some c->∃ vs,BT w n0 u vs c.Queue
structure FN (w:World) (n0:Nat) (v:Value) (fs:List Value) (ps:List D.Process):Prop where
 row:w.ownsRow n0 Es 4 v ps.length (DA ps fs)
 len:fs.length=ps.length
 each:∀ (i:Nat) (u:Value) (p:D.Process),fs[i]?=some u->ps[i]?=some p->I8 w n0 u p.Frame
 apart:∀ (i j:Nat) (u v:Value) (k:Nat),i<j->fs[i]?=some u->fs[j]?=some v->u.ownBlock=some k->v.ownBlock≠some k
section
variable {w w':World} {n0 n1:Nat}
theorem Dd {e:TypeId}{sz:Nat}{v:Value}{n:Nat}{xs:List Value}(h:w.ownsRow n0 e sz v n xs) :
  ∃ ao cap,v=.slice ao n cap/\n<=cap/\cap<=maxLen/\(0<n->∃ g,ao=some ⟨g,0,none⟩/\n0<=g/\g<w.heap.size/\∀ j,j<n*sz->w.cell? ⟨g,j,none⟩=xs[j]?):=by
 rcases h.2 with⟨rfl,rfl⟩ | ⟨g,cap,cur,rfl,hb,hg,h1,h2,_⟩
 ·exact⟨none,0,rfl,AkU _,AkV _,fun h=>by omega⟩
 ·exact⟨_,cap,rfl,h1,h2,fun _=>⟨g,rfl,hb,BO hg,fun j hj=>h.cellAt j hj⟩⟩
theorem CJ {e:TypeId}{sz:Nat}{v:Value}{n:Nat}{xs:List Value}(h:w.ownsRow n0 e sz v n xs)(hb:n1<=n0):w.ownsRow n1 e sz v n xs :=
 ⟨h.1,h.2.imp id fun⟨g,cap,cur,e,h1,h2⟩=>⟨g,cap,cur,e,Alg hb h1,h2⟩⟩
abbrev Ce (w w':World)(n0:Nat)(ts:List TypeId):Prop:=∀ (k:Nat) (cur:Array Value) (t:TypeId),n0<=k->k<w.heap.size->w.heap[k]?=some (.cells cur t (0,0))->t∈ts->w'.heap[k]?=w.heap[k]?
theorem B6 {e:TypeId}{sz:Nat}{v:Value}{n:Nat}{xs:List Value}{ts:List TypeId}(h:w.ownsRow n0 e sz v n xs)(hk:Ce w w' n0 ts)(he:e∈ts):w'.ownsRow n0 e sz v n xs :=
 CE h fun k e1=>by
  obtain⟨cur,hc⟩:=AW h e1
  exact hk k cur e (h.lt k e1).1 (h.lt k e1).2 hc he
theorem BT.kept {v:Value}{vs:List Value}{q:List (List Int)}{ts:List TypeId}(h:BT w n0 v vs q)(hk:Ce w w' n0 ts)(h1:GZ∈ts)(h2:D3∈ts):BT w' n0 v vs q :=
 ⟨B6 h.row hk h1,h.len,fun i u m hu hm=>B6 (h.each i u m hu hm) hk h2⟩
theorem Hn.kept {v:Value}{qs:List Value}{cs:List D.Chan}{ts:List TypeId}(h:Hn w n0 v qs cs)(hk:Ce w w' n0 ts)(h0:D2∈ts)(h1:GZ∈ts)(h2:D3∈ts):Hn w' n0 v qs cs :=
 ⟨B6 h.row hk h0,h.len,fun i u c hu hc=>by obtain⟨vs,hq⟩:=h.each i u c hu hc;exact⟨vs,hq.kept hk h1 h2⟩⟩
theorem FN.kept {v:Value}{fs:List Value}{ps:List D.Process}{ts:List TypeId}(h:FN w n0 v fs ps)(hk:Ce w w' n0 ts)(h0:Es∈ts)(h2:D3∈ts):FN w' n0 v fs ps :=
 ⟨B6 h.row hk h0,h.len,fun i u p hu hp=>B6 (h.each i u p hu hp) hk h2,h.apart⟩
theorem BT.base {v:Value}{vs:List Value}{q:List (List Int)}(h:BT w n0 v vs q)(hb:n1<=n0):BT w n1 v vs q :=
 ⟨CJ h.row hb,h.len,fun i u m hu hm=>CJ (h.each i u m hu hm) hb⟩
theorem Ce.of {ts:List TypeId}(h:∀ k,n0<=k->k<w.heap.size->w'.heap[k]?=w.heap[k]?):Ce w w' n0 ts:=fun k _ _ h0 h1 _ _=>h k h0 h1
theorem Ce.below {ts:List TypeId}(h:Below w.heap.size w w'):Ce w w' n0 ts:=Ce.of fun k _ hk=>h.block k hk
theorem Ce.alloc {ts:List TypeId}(o:Obj):Ce w (w.alloc o) n0 ts:=Ce.of fun _ _ hk=>Below.heap_alloc _ _ _ hk
theorem Ce.drewN {ts:List TypeId}(n:Nat):Ce w (w.drewN n) n0 ts:=Ce.of fun _ _ _=>rfl
theorem Ce.grown {e:TypeId}{sz:Nat}{v:Value}{n:Nat}{xs:List Value}{ts:List TypeId}(hg:w.grownBy w' v.ownBlock)(hr:w.ownsRow n1 e sz v n xs)(he:e ∉ ts):Ce w w' n0 ts:=fun k cur t _ h1 hk ht =>
 hg.block k h1 fun e1=>by
  obtain⟨c2,e2⟩:=AW hr e1.symm
  exact Ef hk e2 (by rintro rfl;exact he ht) rfl
theorem Ce.set {ts:List TypeId}{b i:Nat}{c:Array Value}{t:TypeId}{f:Nat × Nat}{u:Value}(hb:w.heap[b]?=some (.cells c t f))(ht:t ∉ ts):Ce w (w.setCell ⟨b,i,none⟩ u) n0 ts:=fun k cur t' _ _ hk ht' =>
 Below.heap_setCell _ _ _ _ (by rintro rfl;exact Ef hk hb (by rintro rfl;exact ht ht') rfl)
theorem Ce.low {ts:List TypeId}{b i:Nat}{u:Value}(hb:b<n0):Ce w (w.setCell ⟨b,i,none⟩ u) n0 ts:=Ce.of fun k h0 _=>Below.heap_setCell _ _ _ _ (by rintro rfl;omega)
theorem BT.nil (w:World)(n0:Nat):BT w n0 (.slice none 0 0) [] []:=⟨World.ownsRow_nil _ _ _ _,rfl,fun i x m h=>by simp at h⟩
theorem Hn.nil (w:World)(n0:Nat):Hn w n0 (.slice none 0 0) [] []:=⟨World.ownsRow_nil _ _ _ _,rfl,fun i x m h=>by simp at h⟩
theorem FN.nil (w:World)(n0:Nat):FN w n0 (.slice none 0 0) [] []:=⟨World.ownsRow_nil _ _ _ _,rfl,fun i x m h=>by simp at h,fun i j u v k _ h=>by simp at h⟩
theorem Nq {α:Type}{R:Value->α->Prop}{vs:List Value}{l:List α}{u:Value}{a:α}(hl:vs.length=l.length)(h:∀ (i:Nat) x y,vs[i]?=some x->l[i]?=some y->R x y)(h2:R u a):∀ (i:Nat) x y,(vs++[u])[i]?=some x->(l++[a])[i]?=some y->R x y:=by
 intro i x y hx hy
 by_cases hi:i<l.length
 ·rw[Ak0 (by rw[hl];exact hi)]at hx
  rw[Ak0 hi]at hy
  exact h i x y hx hy
 ·have hil:i<l.length+1:=by have:=(AkR.1 hy).1;simpa using this
  obtain rfl:i=l.length:=by omega
  rw[Ak8 (AkU _)]at hy
  rw[Ak8 (by rw[hl];exact AkU _)]at hx
  simp[hl]at hx hy
  subst hx hy
  exact h2
theorem BT.more {v v' u:Value}{vs:List Value}{q:List (List Int)}{m:List Int}(h:BT w n0 v vs q)(hm:I8 w n0 u m)
  (hr:w'.ownsRow n0 GZ 1 v' (q.length+1) (vs++[u])) (hg:w.grownBy w' v.ownBlock):BT w' n0 v' (vs++[u]) (q++[m]):=by
 have hk:Ce w w' n0 [D3]:=Ce.grown hg h.row (by decide)
 exact⟨by simpa using hr,by simp[h.len],Nq (R:=I8 w' n0) h.len (fun i x l hx hl=>B6 (h.each i x l hx hl) hk (by simp)) (B6 hm hk (by simp))⟩
theorem N4 : ∀ {cs:List D.Chan} {qs:List Value} {c:D.Chan} {q:Value},qs.length=cs.length->Fa (cs++[c]) (qs++[q])=Fa cs qs++[.int .i64 c.Shape,q]
 | [],[],c,q,_=>rfl
 | d::cs,r::qs,c,q,h=>by
  have:=N4 (cs:=cs) (qs:=qs) (c:=c) (q:=q) (by simpa using h)
  simp only[Al2,Fa,this]
 | [],_::_,_,_,h=>by simp at h
 | _::_,[],_,_,h=>by simp at h
theorem N3 : ∀ {ps:List D.Process} {fs:List Value} {p:D.Process} {f:Value},fs.length=ps.length->DA (ps++[p]) (fs++[f])=DA ps fs++[.int .i64 p.Type_,.int .i64 p.Loc,.int .i64 p.Prio,f]
 | [],[],_,_,_=>rfl
 | d::ps,r::fs,p,f,h=>by
  have:=N3 (ps:=ps) (fs:=fs) (p:=p) (f:=f) (by simpa using h)
  simp only[Al2,DA,this]
 | [],_::_,_,_,h=>by simp at h
 | _::_,[],_,_,h=>by simp at h
theorem Hn.more {v v' u:Value}{qs vs:List Value}{cs:List D.Chan}{c:D.Chan}(h:Hn w n0 v qs cs)(hq:BT w n0 u vs c.Queue)
  (hr:w'.ownsRow n0 D2 2 v' (cs.length+1) (Fa cs qs++[.int .i64 c.Shape,u])) (hg:w.grownBy w' v.ownBlock):Hn w' n0 v' (qs++[u]) (cs++[c]):=by
 have hk:Ce w w' n0 [GZ,D3]:=Ce.grown hg h.row (by decide)
 refine⟨by rw[N4 h.len];simpa using hr,by simp[h.len],Nq (R:=fun u c=>∃ vs,BT w' n0 u vs c.Queue) h.len (fun i x l hx hl=>?_) ⟨vs,hq.kept hk (by simp) (by simp)⟩⟩
 obtain⟨vs,hv⟩:=h.each i x l hx hl
 exact⟨vs,hv.kept hk (by simp) (by simp)⟩
theorem FN.more {v v' u:Value}{fs:List Value}{ps:List D.Process}{p:D.Process}(h:FN w n0 v fs ps)(hf:I8 w n0 u p.Frame)(hnew:∀ (i:Nat) (x:Value) (k:Nat),fs[i]?=some x->x.ownBlock=some k->u.ownBlock≠some k)
  (hr:w'.ownsRow n0 Es 4 v' (ps.length+1) (DA ps fs++[.int .i64 p.Type_,.int .i64 p.Loc,.int .i64 p.Prio,u])) (hg:w.grownBy w' v.ownBlock):FN w' n0 v' (fs++[u]) (ps++[p]):=by
 have hk:Ce w w' n0 [D3]:=Ce.grown hg h.row (by decide)
 refine⟨by rw[N3 h.len];simpa using hr,by simp[h.len],Nq (R:=fun u p=>I8 w' n0 u p.Frame) h.len (fun i x l hx hl=>B6 (h.each i x l hx hl) hk (by simp)) (B6 hf hk (by simp)),?_⟩
 intro i j x y k hij hx hy ex
 have hj:j<fs.length+1:=by have:=(AkR.1 hy).1;simpa using this
 rw[Ak0 (by omega)]at hx
 by_cases hjl:j<fs.length
 ·rw[Ak0 hjl]at hy
  exact h.apart i j x y k hij hx hy ex
 ·obtain rfl:j=fs.length:=by omega
  rw[Ak8 (AkU _)]at hy
  simp at hy
  subst hy
  exact hnew i x k hx ex
theorem Qt : ∀ {cs:List D.Chan} {qs:List Value} {i:Nat},qs.length=cs.length->i<cs.length->(Fa cs qs)[i*2]?=some (.int .i64 (cs.getD i default).Shape)/\(Fa cs qs)[i*2+1]?=qs[i]?
 | d::cs,r::qs,0,_,_=>⟨rfl,rfl⟩
 | d::cs,r::qs,i+1,h,hi=>by
  have:=Qt (cs:=cs) (qs:=qs) (i:=i) (by simpa using h) (by simpa using hi)
  rw[show(i+1)*2=i*2+2 by omega]
  simpa[Fa] using this
 | [],_,_,_,h=>by simp at h
 | _::_,[],_,h,_=>by simp at h
theorem LJ : ∀ {ps:List D.Process} {fs:List Value} {i:Nat},fs.length=ps.length->i<ps.length->(DA ps fs)[i*4]?=some (.int .i64 (ps.getD i default).Type_)/\(DA ps fs)[i*4+1]?=some (.int .i64 (ps.getD i default).Loc)/\(DA ps fs)[i*4+2]?=some (.int .i64 (ps.getD i default).Prio)/\(DA ps fs)[i*4+3]?=fs[i]?
 | d::ps,r::fs,0,_,_=>⟨rfl,rfl,rfl,rfl⟩
 | d::ps,r::fs,i+1,h,hi=>by
  have:=LJ (ps:=ps) (fs:=fs) (i:=i) (by simpa using h) (by simpa using hi)
  rw[show(i+1)*4=i*4+4 by omega]
  simpa[DA] using this
 | [],_,_,_,h=>by simp at h
 | _::_,[],_,h,_=>by simp at h
variable {E : AF} {m:Option Phi}
end
theorem Y6 {w:World}{n0 g cap k:Nat}{xs:List Int}(h:I8 w n0 (.slice (some ⟨g,0,none⟩) xs.length cap) xs)(x:Int):I8 (w.setCell ⟨g,k,none⟩ (.int .i64 x)) n0 (.slice (some ⟨g,0,none⟩) (xs.set k x).length cap) (xs.set k x):=by
 refine⟨by simp,?_⟩
 rcases h.2 with⟨e,_⟩ | ⟨g',cap',cur,e,hb,hg,h1,h2,h3,h4⟩
 ·simp at e
 ·simp at e
  obtain⟨rfl,rfl⟩:=e
  refine .inr ⟨g,cap,cur.setIfInBounds k (.int .i64 x),by simp,hb,A1 hg _,by simpa using h1,h2,by simpa using h3,?_⟩
  rw[Array.toList_setIfInBounds,List.take_set,List.map_set,AlG,h4]
theorem Qq : ∀ {ps:List D.Process} {fs:List Value} {i:Nat} {p':D.Process},p'.Type_=(ps.getD i default).Type_->p'.Loc=(ps.getD i default).Loc->p'.Prio=(ps.getD i default).Prio->DA (ps.set i p') fs=DA ps fs
 | [],_,_,_,_,_,_=>rfl
 | p::ps,[],0,_,_,_,_=>rfl
 | p::ps,[],i+1,_,_,_,_=>rfl
 | p::ps,f::fs,0,p',h1,h2,h3=>by
  have e1:p'.Type_=p.Type_:=h1
  have e2:p'.Loc=p.Loc:=h2
  have e3:p'.Prio=p.Prio:=h3
  simp only[List.set_cons_zero,DA,e1,e2,e3]
 | p::ps,f::fs,i+1,p',h1,h2,h3=>by
  have:=Qq (ps:=ps) (fs:=fs) (i:=i) (p':=p') h1 h2 h3
  simp only[List.set_cons_succ,DA,this]
theorem FN.write {w:World}{n0 g cap k i:Nat}{v:Value}{fs:List Value}{ps:List D.Process}(h:FN w n0 v fs ps)(hi:i<ps.length)(hf:fs[i]?=some (.slice (some ⟨g,0,none⟩) (ps.getD i default).Frame.length cap))(x:Int) :
  FN (w.setCell ⟨g,k,none⟩ (.int .i64 x)) n0 v fs (ps.set i { ps.getD i default with Frame:=(ps.getD i default).Frame.set k x }):=by
 have hpi:ps[i]?=some (ps.getD i default):=by simp[List.getD,hi]
 have hr:=h.each i _ _ hf hpi
 obtain⟨cur,hblk⟩:=AW hr (k:=g) rfl
 have hk:Ce w (w.setCell ⟨g,k,none⟩ (.int .i64 x)) n0 [Es]:=Ce.set hblk (by decide)
 refine⟨by rw[Qq (p':={ ps.getD i default with Frame:=(ps.getD i default).Frame.set k x }) rfl rfl rfl,AlG];exact B6 h.row hk (by simp),by simp[h.len],fun j u p hu hp=>?_,h.apart⟩
 by_cases hij:i=j
 ·subst hij
  rw[hf]at hu
  simp only[AkP]at hu
  subst hu
  rw[List.getElem?_set_self hi]at hp
  simp only[AkP]at hp
  subst hp
  have:=Y6 (k:=k) hr x
  simpa using this
 ·rw[Am0 hij]at hp
  refine CE (h.each j u p hu hp) fun b hb=>Below.heap_setCell _ _ _ _ ?_
  rintro rfl
  rcases Nat.lt_or_gt_of_ne hij with hl | hl
  ·exact h.apart i j _ _ _ hl hf hu rfl hb
  ·exact h.apart j i _ _ _ hl hu hf hb rfl
def AtL (w:World)(n:Nat)(R:Nat->Nat->Nat->Prop)(v:Value):Prop :=
 ∃ ao cap,v=.slice ao n cap/\n<=cap/\cap<=maxLen/\(0<n->∃ b off,ao=some ⟨b,off,none⟩/\b<w.heap.size/\∀ i,i<n->R b off i)
def AtI (w:World)(xs:List Int)(v:Value):Prop:=AtL w xs.length (fun b off i=>w.cell? ⟨b,off+i,none⟩=some (.int .i64 (xs.getD i 0))) v
def AtQ (w:World)(q:List (List Int))(v:Value):Prop:=AtL w q.length (fun b off i=>∃ u,w.cell? ⟨b,off+i,none⟩=some u/\AtI w (q.getD i []) u) v
def AtC (w:World)(cs:List D.Chan)(v:Value):Prop :=
 AtL w cs.length (fun b off i=>∃ u,w.cell? ⟨b,off+i*2,none⟩=some (.int .i64 (cs.getD i default).Shape)/\w.cell? ⟨b,off+i*2+1,none⟩=some u/\AtQ w (cs.getD i default).Queue u) v
def AtP (w:World)(ps:List D.Process)(v:Value):Prop :=
 AtL w ps.length (fun b off i=>∃ u,w.cell? ⟨b,off+i*4,none⟩=some (.int .i64 (ps.getD i default).Type_)/\w.cell? ⟨b,off+i*4+1,none⟩=some (.int .i64 (ps.getD i default).Loc)/\w.cell? ⟨b,off+i*4+2,none⟩=some (.int .i64 (ps.getD i default).Prio)/\w.cell? ⟨b,off+i*4+3,none⟩=some u/\AtI w (ps.getD i default).Frame u) v
section
variable {w : World} {E:AF} {m:Option Phi} {v:Value} {fz:Bool}
theorem AhD {xs:List Int}(h:V w E m (Ad fz xs) v):AtI w xs v:=by
 obtain⟨ao,cap,rfl,h1,h2,h3⟩:=V.sl_inv h
 refine⟨ao,cap,rfl,h1,h2,fun hp=>?_⟩
 obtain⟨b,off,rfl,hb,_,_,u,hc,hv⟩:=h3 hp
 refine⟨b,off,rfl,hb,fun i hi=>?_⟩
 have c1:=hc i 0 _ hi rfl
 have c2:=(hv i 0 _ hi rfl).sc_inv
 rw[c2]at c1
 simpa using c1
theorem AkJ {q:List (List Int)}(h:V w E m (BL fz q) v):AtQ w q v:=by
 obtain⟨ao,cap,rfl,h1,h2,h3⟩:=V.sl_inv h
 refine⟨ao,cap,rfl,h1,h2,fun hp=>?_⟩
 obtain⟨b,off,rfl,hb,_,_,u,hc,hv⟩:=h3 hp
 refine⟨b,off,rfl,hb,fun i hi=>⟨u i 0,?_,AhD (hv i 0 _ hi rfl)⟩⟩
 have c1:=hc i 0 _ hi rfl
 simpa using c1
theorem AkM {cs:List D.Chan}(h:V w E m (Az fz cs) v):AtC w cs v:=by
 obtain⟨ao,cap,rfl,h1,h2,h3⟩:=V.sl_inv h
 refine⟨ao,cap,rfl,h1,h2,fun hp=>?_⟩
 obtain⟨b,off,rfl,hb,_,_,u,hc,hv⟩:=h3 hp
 refine⟨b,off,rfl,hb,fun i hi=>⟨u i 1,?_,?_,AkJ (hv i 1 _ hi rfl)⟩⟩
 ·have c1:=hc i 0 _ hi rfl
  have c2:=(hv i 0 _ hi rfl).sc_inv
  rw[c2]at c1
  simpa using c1
 ·exact hc i 1 _ hi rfl
theorem AkK {ps:List D.Process}(h:V w E m (Ap fz ps) v):AtP w ps v:=by
 obtain⟨ao,cap,rfl,h1,h2,h3⟩:=V.sl_inv h
 refine⟨ao,cap,rfl,h1,h2,fun hp=>?_⟩
 obtain⟨b,off,rfl,hb,_,_,u,hc,hv⟩:=h3 hp
 refine⟨b,off,rfl,hb,fun i hi=>⟨u i 3,?_,?_,?_,?_,AhD (hv i 3 _ hi rfl)⟩⟩
 ·have c1:=hc i 0 _ hi rfl
  have c2:=(hv i 0 _ hi rfl).sc_inv
  rw[c2]at c1
  simpa using c1
 ·have c1:=hc i 1 _ hi rfl
  have c2:=(hv i 1 _ hi rfl).sc_inv
  rw[c2]at c1
  simpa using c1
 ·have c1:=hc i 2 _ hi rfl
  have c2:=(hv i 2 _ hi rfl).sc_inv
  rw[c2]at c1
  simpa using c1
 ·exact hc i 3 _ hi rfl
end
theorem AtL.map {w w':World}{n:Nat}{R S:Nat->Nat->Nat->Prop}{v:Value}(h:AtL w n R v)(hs:w.heap.size<=w'.heap.size)(hR:∀ b off i,b<w.heap.size->i<n->R b off i->S b off i):AtL w' n S v:=by
 obtain⟨ao,cap,rfl,h1,h2,h3⟩:=h
 refine⟨ao,cap,rfl,h1,h2,fun hp=>?_⟩
 obtain⟨b,off,rfl,hb,hc⟩:=h3 hp
 exact⟨b,off,rfl,by omega,fun i hi=>hR b off i hb hi (hc i hi)⟩
theorem AtI.below {w w':World}{xs:List Int}{v:Value}(h:AtI w xs v)(hb:Below w.heap.size w w'):AtI w' xs v :=
 AtL.map h hb.size fun b off i hl _ hc=>by rw[hb.cell (p:=⟨b,off+i,none⟩) hl];exact hc
section
variable {P : Program} {fn:Func} {R:Ending->World->Prop} {a:Act} {w:World} {p u x:Tmp} {ty t:TypeId} {g:Nat} {cs:Array Value} {fr:Nat × Nat} {d:TypeDesc}
theorem Rr (h:fn.results=#[.cell p ty])(hp:a.tmps.getD p undef=.pointer (some ⟨g,0,none⟩))(hg:w.heap[g]?=some (.cells cs t fr))
  (hu:P.underlying ty=some d) (hd:(match d with | .struct _ | .array _ _=>true | _=>false)=true) (hi:(P.info? ty).map (·.size)=some cs.size) (hf:a.defers=[]) (hR:R (.returned (.agg cs)) w):bodyPost P fn R .ret a w :=
 bodyPost_ret (results_cell_row h _ w g t cs fr d hp hg hu hd hi) hf hR
theorem Ml (h:fn.results=#[.cell p ty,.tmp u])(tmps:Array Value)(hp:tmps.getD p undef=.pointer (some ⟨g,0,none⟩))(hg:w.heap[g]?=some (.cells cs t fr))
  (hu:P.underlying ty=some d) (hd:(match d with | .struct _ | .array _ _=>true | _=>false)=true) (hi:(P.info? ty).map (·.size)=some cs.size) :
  (results fn tmps).run P w=.ok (.tuple #[.agg cs,tmps.getD u undef]) w:=by
 have hp':tmps[p]?.getD undef=.pointer (some ⟨g,0,none⟩):=by simpa using hp
 simp[results,h,hp',asAddr,run_loadVar_row w g t ty cs fr d hg hu hd hi]
theorem Mk (h:fn.results=#[.cell p ty,.tmp u,.tmp x])(tmps:Array Value)(hp:tmps.getD p undef=.pointer (some ⟨g,0,none⟩))(hg:w.heap[g]?=some (.cells cs t fr))
  (hu:P.underlying ty=some d) (hd:(match d with | .struct _ | .array _ _=>true | _=>false)=true) (hi:(P.info? ty).map (·.size)=some cs.size) :
  (results fn tmps).run P w=.ok (.tuple #[.agg cs,tmps.getD u undef,tmps.getD x undef]) w:=by
 have hp':tmps[p]?.getD undef=.pointer (some ⟨g,0,none⟩):=by simpa using hp
 simp[results,h,hp',asAddr,run_loadVar_row w g t ty cs fr d hg hu hd hi]
theorem DV (h:fn.results=#[.cell p ty,.tmp u])(hp:a.tmps.getD p undef=.pointer (some ⟨g,0,none⟩))(hg:w.heap[g]?=some (.cells cs t fr))
  (hu:P.underlying ty=some d) (hd:(match d with | .struct _ | .array _ _=>true | _=>false)=true) (hi:(P.info? ty).map (·.size)=some cs.size) (hf:a.defers=[]) (hR:R (.returned (.tuple #[.agg cs,a.tmps.getD u undef])) w):bodyPost P fn R .ret a w :=
 bodyPost_ret (Ml h _ hp hg hu hd hi) hf hR
theorem M6 (h:fn.results=#[.cell p ty,.tmp u,.tmp x])(hp:a.tmps.getD p undef=.pointer (some ⟨g,0,none⟩))(hg:w.heap[g]?=some (.cells cs t fr))
  (hu:P.underlying ty=some d) (hd:(match d with | .struct _ | .array _ _=>true | _=>false)=true) (hi:(P.info? ty).map (·.size)=some cs.size) (hf:a.defers=[]) (hR:R (.returned (.tuple #[.agg cs,a.tmps.getD u undef,a.tmps.getD x undef])) w):bodyPost P fn R .ret a w :=
 bodyPost_ret (Mk h _ hp hg hu hd hi) hf hR
end
section
variable {P : Program} {a:Act} {w:World} {Q:Exit->Act->World->Prop}
theorem Gw {c rest:Code}(l:Nat)(hf:findLabel c l=some rest)
  (h:∀ J:Act->World->Prop,(∀ a w,rest.wp P (Exit.noGoto Q) a w->J a w)->c.wp P (Exit.jump l J Q) a w):(Code.scope c).wp P Q a w:=by
 refine wp_scope_jumps l (fun a w=>rest.wp P (Exit.noGoto Q) a w) (fun _ _=>0) hf (h _ fun _ _ h=>h) ?_
 intro a w hr b k cs
 obtain⟨e,a1,w1,hq,harr⟩:=hr b k cs
 refine⟨e,a1,w1,?_,harr⟩
 cases e with
 | goto l=>exact hq.elim
 | normal=>exact hq
 | exit _=>exact hq
 | ret=>exact hq
 | panic _=>exact hq
 | outgrown=>exact hq
@[go_sem] theorem AhR (l:Nat) (J:Act->World->Prop):Exit.jump l J Q .normal a w=Q .normal a w:=rfl
@[go_sem] theorem Ajv (l:Nat) (J:Act->World->Prop) (id:Nat):Exit.jump l J Q (.exit id) a w=Q (.exit id) a w:=rfl
@[go_sem] theorem Akm (l:Nat) (J:Act->World->Prop):Exit.jump l J Q .ret a w=Q .ret a w:=rfl
@[go_sem] theorem Ai9 (l:Nat) (J:Act->World->Prop) (ch:List PanicEntry):Exit.jump l J Q (.panic ch) a w=Q (.panic ch) a w:=rfl
end
theorem Afz {W w1:World}(hb:Below W.heap.size W w1):(∀ b o,b<W.heap.size->w1.cell? ⟨b,o,none⟩=W.cell? ⟨b,o,none⟩)/\(∀ b o,b<W.heap.size->w1.frozen? ⟨b,o,none⟩=W.frozen? ⟨b,o,none⟩) :=
 ⟨fun b o h=>hb.cell (p:=⟨b,o,none⟩) h,fun b o h=>hb.frozen (p:=⟨b,o,none⟩) h⟩
set_option maxHeartbeats 1000000 in
theorem MI {w:World}{ao:Option Addr}{cap:Nat}{xs:List Int}(h1:xs.length<=cap)(h2:cap<=maxLen)(hr:xs.length*8<=140737488355328)(h3:0<xs.length->∃ a,ao=some a/\∀ i,i<xs.length->w.cell? (a.add i)=some (.int .i64 (xs.getD i 0))) :
  Calls Tryz.prog 30 #[.slice ao xs.length cap] w fun e w'=>∃ v',e=.returned v'/\w'.ownsRow w.heap.size 2 1 v' xs.length (xs.map (Value.int .i64))/\Below w.heap.size w w':=by
 have q22:∀ (w:World) (a:Option Addr) (n c n' c':Nat),(binOp .eql 98 (.slice a n c) (.slice none n' c')).run Tryz.prog w=.ok (.bool a.isNone) w:=fun w a n c n' c'=>Lib.run_eql_slice_nil w _ _ a n c n' c' Tryz.underlying98
 obtain⟨ki,khi,khz0,khz1,khz2⟩:=B8 JN
 cases ao with
 | none =>
  have h0:xs=[]:=by
   apply Alp
   apply Alf
   intro hp
   obtain⟨_,e,_⟩:=h3 (by omega)
   cases e
  subst h0
  clear h3
  go_enter Tryz.func30,Tryz.ntmps30
  go_wp2
  go_ret
  exact⟨_,rfl,World.ownsRow_nil _ _ _ _,Below.refl _ _⟩
 | some a =>
  have hn:∀ (j:Nat) (u:Value),(xs.map (Value.int .i64))[j]?=some u->w.cell? (a.add j)=some u:=by
   intro j u hj
   have hjl:j<xs.length:=by have:=(AkR.1 hj).1;simpa using this
   obtain⟨a',e,hc⟩:=h3 (by omega)
   simp only[AkP]at e
   subst e
   rw[hc j hjl,← hj];simp[List.getD,hjl]
  have HN:=Lib.hid hn
  clear h3 hn
  have hlen:=h2
  unfold maxLen at hlen
  go_enter Tryz.func30,Tryz.ntmps30
  go_wp2_with (at_builtin;refine wpList_append_own _ rfl _ _ 98 rfl w.heap.size 2 ki (.int .i64 0) 1 8 Tryz.underlying98 khi khz0 khz1 khz2 rfl (by decide) _ _ _ rfl (World.ownsRow_made w #[] 0 (AkU _) (AkV _) (by simp)) a xs.length cap (xs.map (Value.int .i64)) rfl ?qc1 ?qc2 ?qc3 ?qc4 ?qc5 ?qc6 ?_)
  case qc1=>simp
  case qc2=>intro j u hj;have:=HN.out j u hj;exact Lib.cell?_alloc_some _ this
  case qc3=>intro u hu;simp at hu;obtain⟨x,_,rfl⟩:=hu;rfl
  case qc4=>unfold maxLen;omega
  case qc5=>omega
  case qc6=>simp
  intro v' w1 hown hgrow _
  go_wp2
  go_ret
  exact⟨v',rfl,by simpa using hown,((Below.refl _ w).alloc (AkU _) _).grown hgrow (by simp) (by intro k hk;simp[Value.ownBlock]at hk;omega)⟩
theorem ZL {w:World}{v:Value}{xs:List Int}(h:AtI w xs v)(hr:xs.length<=128) :
  Calls Tryz.prog 24 #[v] w fun e w'=>∃ v',e=.returned v'/\I8 w' w.heap.size v' xs/\Below w.heap.size w w':=by
 obtain⟨ao,cap,rfl,h1,h2,h3⟩:=h
 exact F4 h1 h2 (by omega) fun hp=>by obtain⟨b,off,rfl,_,hc⟩:=h3 hp;exact⟨_,rfl,fun i hi=>by rw[Addr.add_lit];exact hc i hi⟩
theorem Ahv {w:World}{v:Value}{xs:List Int}(h:AtI w xs v)(hr:xs.length<=8) :
  Calls Tryz.prog 30 #[v] w fun e w'=>∃ v',e=.returned v'/\I8 w' w.heap.size v' xs/\Below w.heap.size w w':=by
 obtain⟨ao,cap,rfl,h1,h2,h3⟩:=h
 exact MI h1 h2 (by omega) fun hp=>by obtain⟨b,off,rfl,_,hc⟩:=h3 hp;exact⟨_,rfl,fun i hi=>by rw[Addr.add_lit];exact hc i hi⟩
theorem AtI.alloc {w:World}{xs:List Int}{v:Value}(h:AtI w xs v)(o:Obj):AtI (w.alloc o) xs v :=
 AtL.map h (by simp) fun b off i hb _ hc=>Lib.cell?_alloc_some _ hc
theorem GI {α:Type}{q:List α}{k:Nat}{m:α}(h:q[k]?=some m):q.take (k+1)=q.take k++[m]:=by
 obtain⟨hk,rfl⟩:=AkR.1 h
 rw[List.take_succ_eq_append_getElem hk]
structure V2 (w w2 w':World) (s:D.State) (vg vc vp:Value) (n1:Nat) (qs fs:List Value):Prop where
 g:I8 w' w.heap.size vg s.Globals
 g1:∀ k,vg.ownBlock=some k->k<n1
 n0:w.heap.size<=n1
 n2:n1<=w2.heap.size
 c:Hn w2 n1 vc qs s.Chans
 kept:∀ k,n1<=k->k<w2.heap.size->w'.heap[k]?=w2.heap[k]?
 p:FN w' w2.heap.size vp fs s.Procs
 below:Below w.heap.size w w'
theorem Fo {w w':World}{b i:Nat}{u:Value}(h:Cb w w' (fun k=>k=b)):Cb w (w'.setCell ⟨b,i,none⟩ u) (fun k=>k=b) :=
 Cb.setCell (p:=⟨b,i,none⟩) h (Or.inl rfl) u
theorem Ic {w:World}{b:Nat}(v0 v1 v2 v3 v4 v5:Value) :
  Cb w ((((((w.setCell ⟨b,0,none⟩ v0).setCell ⟨b,1,none⟩ v1).setCell ⟨b,2,none⟩ v2).setCell ⟨b,3,none⟩ v3).setCell ⟨b,4,none⟩ v4).setCell ⟨b,5,none⟩ v5) (fun k=>k=b):=by
 refine Fo ?_
 refine Fo ?_
 refine Fo ?_
 refine Fo ?_
 refine Fo ?_
 refine Fo ?_
 exact Cb.refl w _
theorem AdJ {w:World}{b:Nat}(v0 v1 v2 v3 v4 v5:Value) :
  ((((((w.setCell ⟨b,0,none⟩ v0).setCell ⟨b,1,none⟩ v1).setCell ⟨b,2,none⟩ v2).setCell ⟨b,3,none⟩ v3).setCell ⟨b,4,none⟩ v4).setCell ⟨b,5,none⟩ v5).heap.size=w.heap.size:=by
 simp[World.setCell]
theorem MN {w:World}{b:Nat}{u0 u1 u2 u3 u4 u5:Value}{t:TypeId}(h:w.heap[b]?=some (.cells #[u0,u1,u2,u3,u4,u5] t (0,0)))(v0 v1 v2 v3 v4 v5:Value) :
  ((((((w.setCell ⟨b,0,none⟩ v0).setCell ⟨b,1,none⟩ v1).setCell ⟨b,2,none⟩ v2).setCell ⟨b,3,none⟩ v3).setCell ⟨b,4,none⟩ v4).setCell ⟨b,5,none⟩ v5).heap[b]?=some (.cells #[v0,v1,v2,v3,v4,v5] t (0,0)):=by
 rw[A1 (A1 (A1 (A1 (A1 (A1 h _) _) _) _) _) _];rfl
set_option maxRecDepth 100000 in
set_option maxHeartbeats 4000000 in
theorem Qm {w:World}{s:D.State}{g c p:Value}(hs:Fit s)(hg:AtI w s.Globals g)(hc:AtC w s.Chans c)(hp:AtP w s.Procs p) :
  Calls Tryz.prog 14 #[.agg #[g,c,p,.int .i64 s.Last,.int .i64 s.Alone,.int .i64 s.Claim]] w fun e w' =>
   ∃ vg vc vp n1 qs fs w2,e=.returned (.agg #[vg,vc,vp,.int .i64 s.Last,.int .i64 s.Alone,.int .i64 s.Claim])/\V2 w w2 w' s vg vc vp n1 qs fs:=by
 obtain⟨ki,khi,khz0,khz1,khz2⟩:=B8 G6
 obtain⟨kc,khc,kcz0,kcz1,kcz2⟩:=B8 Ab6
 obtain⟨kp,khp,kpz0,kpz1,kpz2⟩:=B8 Ab5
 have hg128:=hs.g
 have hsc:=hs.c
 have hsp:=hs.p
 obtain⟨ag,capg,rfl,hg1,hg2,hg3⟩:=id hg
 obtain⟨ac,capc,rfl,hc1,hc2,hc3⟩:=hc
 obtain⟨ap,capp,rfl,hp1,hp2,hp3⟩:=hp
 go_enter Tryz.func14,Tryz.ntmps14
 go_wp2_with (go_at_call 24;refine(ZL (((hg.alloc _).alloc _).alloc _) hg128).mono ?_;rintro e w1 ⟨vg,rfl,hr1,hb1⟩;obtain⟨aog,cg,rfl,_⟩:=Dd hr1;obtain⟨cc1,cf1⟩:=Afz hb1)
 have hz1:w.heap.size+1+1+1<=w1.heap.size:=by simpa using hb1.size
 have a2:w1.heap[w.heap.size+1+1]?=some (.cells #[.slice ag s.Globals.length capg,.slice ac s.Chans.length capc,.slice ap s.Procs.length capp,.int .i64 s.Last,.int .i64 s.Alone,.int .i64 s.Claim] BJ (0,0)):=by
  rw[hb1.block _ (by simp)]
  have:=heap_alloc_new ((w.alloc (.cells #[.slice ag s.Globals.length capg,.slice ac s.Chans.length capc,.slice ap s.Procs.length capp,.int .i64 s.Last,.int .i64 s.Alone,.int .i64 s.Claim] BJ)).alloc (.cells #[.slice none 0 0,.slice none 0 0,.slice none 0 0,.int .i64 0,.int .i64 0,.int .i64 0] BJ)) (.cells #[.slice ag s.Globals.length capg,.slice ac s.Chans.length capc,.slice ap s.Procs.length capp,.int .i64 s.Last,.int .i64 s.Alone,.int .i64 s.Claim] BJ)
  simpa using this
 have a1:w1.heap[w.heap.size+1]?=some (.cells #[.slice none 0 0,.slice none 0 0,.slice none 0 0,.int .i64 0,.int .i64 0,.int .i64 0] BJ (0,0)):=by
  rw[hb1.block _ (by simp<;>omega),Below.heap_alloc _ _ _ (by simp)]
  have:=heap_alloc_new (w.alloc (.cells #[.slice ag s.Globals.length capg,.slice ac s.Chans.length capc,.slice ap s.Procs.length capp,.int .i64 s.Last,.int .i64 s.Alone,.int .i64 s.Claim] BJ)) (.cells #[.slice none 0 0,.slice none 0 0,.slice none 0 0,.int .i64 0,.int .i64 0,.int .i64 0] BJ)
  simpa using this
 have a0:w1.heap[w.heap.size]?=some (.cells #[.slice ag s.Globals.length capg,.slice ac s.Chans.length capc,.slice ap s.Procs.length capp,.int .i64 s.Last,.int .i64 s.Alone,.int .i64 s.Claim] BJ (0,0)):=by
  rw[hb1.block _ (by simp<;>omega),Below.heap_alloc _ _ _ (by simp<;>omega),Below.heap_alloc _ _ _ (by simp)]
  have:=heap_alloc_new w (.cells #[.slice ag s.Globals.length capg,.slice ac s.Chans.length capc,.slice ap s.Procs.length capp,.int .i64 s.Last,.int .i64 s.Alone,.int .i64 s.Claim] BJ)
  simpa using this
 have hB1:Below w.heap.size w w1:=(((Below.refl _ w).alloc (AkU _) _).alloc (by simp) _ |>.alloc (by simp<;>omega) _).trans (hb1.mono (by simp<;>omega))
 clear cc1 cf1
 have F0:(((w1.setCell ⟨w.heap.size+1+1,0,none⟩ (.slice aog s.Globals.length cg)).setCell ⟨w.heap.size+1+1,1,none⟩ (.slice none 0 0)).setCell ⟨w.heap.size+1+1,2,none⟩ (.slice none 0 0)).heap[w.heap.size]?=some (.cells #[.slice ag s.Globals.length capg,.slice ac s.Chans.length capc,.slice ap s.Procs.length capp,.int .i64 s.Last,.int .i64 s.Alone,.int .i64 s.Claim] BJ (0,0)):=by
  rw[Below.heap_setCell _ _ _ _ (by simp<;>omega),Below.heap_setCell _ _ _ _ (by simp<;>omega),Below.heap_setCell _ _ _ _ (by simp<;>omega)];exact a0
 have F1:(((w1.setCell ⟨w.heap.size+1+1,0,none⟩ (.slice aog s.Globals.length cg)).setCell ⟨w.heap.size+1+1,1,none⟩ (.slice none 0 0)).setCell ⟨w.heap.size+1+1,2,none⟩ (.slice none 0 0)).heap[w.heap.size+1]?=some (.cells #[.slice none 0 0,.slice none 0 0,.slice none 0 0,.int .i64 0,.int .i64 0,.int .i64 0] BJ (0,0)):=by
  rw[Below.heap_setCell _ _ _ _ (by simp),Below.heap_setCell _ _ _ _ (by simp),Below.heap_setCell _ _ _ _ (by simp)];exact a1
 have F2:(((w1.setCell ⟨w.heap.size+1+1,0,none⟩ (.slice aog s.Globals.length cg)).setCell ⟨w.heap.size+1+1,1,none⟩ (.slice none 0 0)).setCell ⟨w.heap.size+1+1,2,none⟩ (.slice none 0 0)).heap[w.heap.size+1+1]?=some (.cells #[.slice aog s.Globals.length cg,.slice none 0 0,.slice none 0 0,.int .i64 s.Last,.int .i64 s.Alone,.int .i64 s.Claim] BJ (0,0)):=by
  rw[A1 (A1 (A1 a2 _) _) _];rfl
 have FB:Below w.heap.size w (((w1.setCell ⟨w.heap.size+1+1,0,none⟩ (.slice aog s.Globals.length cg)).setCell ⟨w.heap.size+1+1,1,none⟩ (.slice none 0 0)).setCell ⟨w.heap.size+1+1,2,none⟩ (.slice none 0 0)) :=
  ((hB1.setCell (by simp<;>omega) _).setCell (by simp<;>omega) _).setCell (by simp<;>omega) _
 have FG:I8 (((w1.setCell ⟨w.heap.size+1+1,0,none⟩ (.slice aog s.Globals.length cg)).setCell ⟨w.heap.size+1+1,1,none⟩ (.slice none 0 0)).setCell ⟨w.heap.size+1+1,2,none⟩ (.slice none 0 0)) (w.heap.size+1+1+1) (.slice aog s.Globals.length cg) s.Globals:=by
  refine CE (CJ hr1 (by simp)) fun k hk=>?_
  have hkb:=(hr1.lt k hk).1
  simp at hkb
  rw[Below.heap_setCell _ _ _ _ (by simp<;>omega),Below.heap_setCell _ _ _ _ (by simp<;>omega),Below.heap_setCell _ _ _ _ (by simp<;>omega)]
 have FZ:w.heap.size+1+1+1<=(((w1.setCell ⟨w.heap.size+1+1,0,none⟩ (.slice aog s.Globals.length cg)).setCell ⟨w.heap.size+1+1,1,none⟩ (.slice none 0 0)).setCell ⟨w.heap.size+1+1,2,none⟩ (.slice none 0 0)).heap.size:=by simpa using hz1
 clear hr1 hb1 a0 a1 a2 hB1 hz1
 generalize (((w1.setCell ⟨w.heap.size+1+1,0,none⟩ (.slice aog s.Globals.length cg)).setCell ⟨w.heap.size+1+1,1,none⟩ (.slice none 0 0)).setCell ⟨w.heap.size+1+1,2,none⟩ (.slice none 0 0))=wl at *
 go_loopw [21] (fun i wr=>∃ k:Nat,k<=s.Chans.length/\i=.int .i64 k/\∃ ov qs,wr.heap[w.heap.size+1+1]?=some (.cells #[.slice aog s.Globals.length cg,ov,.slice none 0 0,.int .i64 s.Last,.int .i64 s.Alone,.int .i64 s.Claim] BJ (0,0))/\Hn wr wl.heap.size ov qs (s.Chans.take k)/\Cb wl wr (fun b=>b=w.heap.size+1+1)) (fun i _=>s.Chans.length - (intOf i).toNat)
 case atStart=>exact⟨0,AkV _,rfl,.slice none 0 0,[],F2,Hn.nil _ _,Cb.refl _ _⟩
 case round =>
  obtain⟨k,hk,rfl,ov,qs,hB,hC,hT⟩:=hrel
  generalize wr=wo at *
  by_cases hlt:k<s.Chans.length
  ·obtain⟨b,off,rfl,hbl,hrow⟩:=hc3 (by omega)
   obtain⟨u,hu0,hu1,hq⟩:=hrow k hlt
   have hWr:Below w.heap.size w wo:=FB.trans (hT.below FB.size (fun j hj=>by subst hj;omega))
   rw[← hWr.cell (p:=⟨b,off+k*2,none⟩) hbl]at hu0
   rw[← hWr.cell (p:=⟨b,off+k*2+1,none⟩) hbl]at hu1
   obtain⟨aq,capq,rfl,hq1,hq2,hq3⟩:=hq
   have HQ:Hid (s.Chans[k]?=some (s.Chans.getD k default)):=by unfold Hid;simp[List.getD,hlt]
   have hfit:=hs.q (s.Chans.getD k default) (Aw hlt)
   clear hrow
   generalize s.Chans.getD k default=ch at *
   have hfq:=hfit.1
   have hfm:=Lib.hid hfit.2
   clear hfit
   unfold maxLen at hq2
   go_wp2
   have hfb:wl.heap.size<=wo.heap.size:=hT.size
   have G0:(wo.alloc (.cells #[.int .i64 ch.Shape,.slice aq ch.Queue.length capq] D2)).heap[wo.heap.size]?=some (.cells #[.int .i64 ch.Shape,.slice aq ch.Queue.length capq] D2 (0,0)):=heap_alloc_new wo _
   have G1:Below wo.heap.size wo (wo.alloc (.cells #[.int .i64 ch.Shape,.slice aq ch.Queue.length capq] D2)):=(Below.refl _ wo).alloc (AkU _) _
   have G2:(wo.alloc (.cells #[.int .i64 ch.Shape,.slice aq ch.Queue.length capq] D2)).heap.size=wo.heap.size+1:=by simp
   generalize wo.alloc (.cells #[.int .i64 ch.Shape,.slice aq ch.Queue.length capq] D2)=wb at *
   have HL:=Lib.hid hlt
   go_loopw [6,28] (fun qv i wr=>∃ (q0:Value) (j:Nat) (vs:List Value),q0=qv/\j<=ch.Queue.length/\i=.int .i64 j/\BT wr (wo.heap.size+1) q0 vs (ch.Queue.take j)/\Below (wo.heap.size+1) wb wr) (fun _ i _=>ch.Queue.length - (intOf i).toNat)
   case atStart=>exact⟨_,0,[],rfl,AkV _,rfl,BT.nil _ _,Below.refl _ _⟩
   case round =>
    obtain⟨qv,j,vs,rfl,hj,rfl,hQ,hBq⟩:=hrel
    have hsz:=hBq.size
    by_cases hjl:j<ch.Queue.length
    ·obtain⟨bq,offq,rfl,hbq,hrowq⟩:=hq3 (by omega)
     obtain⟨x,hx0,hx⟩:=hrowq j hjl
     have hWq:Below w.heap.size w wr:=(hWr.trans (G1.mono (by have:=hWr.size;omega))).trans (hBq.mono (by have:=hWr.size;omega))
     rw[← hWq.cell (p:=⟨bq,offq+j,none⟩) hbq]at hx0
     have hx':=hx.below hWq
     have HJ:Hid (ch.Queue[j]?=some (ch.Queue.getD j [])):=by unfold Hid;simp[List.getD,hjl]
     have hm8:=hfm.out (ch.Queue.getD j []) (Aw hjl)
     clear hrowq hx
     generalize ch.Queue.getD j []=m at *
     obtain⟨ax,capx,rfl,hx1,hx2,hx3⟩:=id hx'
     have hQr:=hQ.row
     have hkl:(ch.Queue.take j).length=j:=by simp;omega
     rw[hkl]at hQr
     go_wp2_with (first | (go_at_call 30;refine(Ahv hx' hm8).mono ?_;rintro e w2 ⟨v',rfl,hm2,hb2⟩;obtain⟨ao',cap',rfl,_⟩:=Dd hm2) | (at_builtin;refine wpList_append_own _ rfl _ _ 84 rfl (wo.heap.size+1) GZ ki (.slice none 0 0) 1 24 Tryz.underlying84 khi khz0 khz1 khz2 rfl (by decide) qv j vs rfl ?qrow ⟨w2.heap.size,0,none⟩ 1 1 [.slice ao' m.length cap'] rfl ?qc1 ?qc2 ?qc3 ?qc4 ?qc5 ?qc6 ?_))
     case qrow=>exact B6 (B6 (ts:=[GZ]) hQr (Ce.below hb2) (by simp)) (Ce.alloc (ts:=[GZ]) _) (by simp)
     case qc1=>rfl
     case qc2=>exact World.news_of_block (heap_alloc_new w2 (.cells #[.slice ao' m.length cap'] GZ))
     case qc3=>intro u hu;simp at hu;subst hu;rfl
     case qc4=>unfold maxLen;omega
     case qc5=>omega
     case qc6=>have:=hb2.size;simp;omega
     intro v2 w3 hown3 hgrow3 _
     have hz2:=hb2.size
     have HO:Hid (BT w3 (wo.heap.size+1) v2 (vs++[.slice ao' m.length cap']) (ch.Queue.take (j+1))):=by
      unfold Hid
      rw[GI HJ.out]
      refine BT.more ((hQ.kept (ts:=[GZ,D3]) (Ce.below hb2) (by simp) (by simp)).kept (ts:=[GZ,D3]) (Ce.alloc _) (by simp) (by simp)) (B6 (ts:=[D3]) (CJ hm2 (by omega)) (Ce.alloc _) (by simp)) (by rw[hkl];exact hown3) hgrow3
     have HB:Hid (Below (wo.heap.size+1) wb w3):=((hBq.trans (hb2.mono (by omega))).alloc (by omega) _).grown hgrow3 (by simp;omega) (fun k hk=>(hQr.lt k hk).1)
     clear hown3 hgrow3 hm2 hb2 hQr hQ hBq
     go_wp2
     go_roundw
     case rel=>exact⟨v2,j+1,_,rfl,by omega,by go_num,HO.out,HB.out⟩
     case measure=>simp[intOf];omega
    ·obtain rfl:j=ch.Queue.length:=by omega
     rw[Al1]at hQ
     have hblkc:wr.heap[wo.heap.size]?=some (.cells #[.int .i64 ch.Shape,.slice aq ch.Queue.length capq] D2 (0,0)):=(hBq.block _ (by omega)).trans G0
     have hBo:w.heap.size+1+1<wo.heap.size:=by omega
     have hblkB:wr.heap[w.heap.size+1+1]?=some (.cells #[.slice aog s.Globals.length cg,ov,.slice none 0 0,.int .i64 s.Last,.int .i64 s.Alone,.int .i64 s.Claim] BJ (0,0)):=((hBq.block _ (by omega)).trans (G1.block _ hBo)).trans hB
     have x0:wr.cell? ⟨wo.heap.size,0,none⟩=some (.int .i64 ch.Shape):=Ai hblkc rfl
     have x1:wr.cell? ⟨w.heap.size+1+1,1,none⟩=some ov:=Ai hblkB rfl
     have hCr:Hn wr wl.heap.size ov qs (s.Chans.take k):=hC.kept (ts:=[D2,GZ,D3]) (Ce.of fun b _ hb=>(hBq.block b (by omega)).trans (G1.block b hb)) (by simp) (by simp) (by simp)
     have hkl:(s.Chans.take k).length=k:=by simp;omega
     have hCrow:=hCr.row
     rw[hkl]at hCrow
     obtain⟨aqq,cqq,rfl,_⟩:=Dd hQ.row
     clear hC
     go_wp2_with (at_builtin;refine wpList_append_own _ rfl _ _ 32 rfl wl.heap.size D2 kc (.agg #[.int .i64 0,.slice none 0 0]) 2 32 Tryz.underlying32 khc kcz0 kcz1 kcz2 rfl (by decide) ov k (Fa (s.Chans.take k) qs) rfl ?qrow ⟨wr.heap.size,0,none⟩ 1 1 [.int .i64 ch.Shape,.slice aqq ch.Queue.length cqq] rfl ?qc1 ?qc2 ?qc3 ?qc4 ?qc5 ?qc6 ?_)
     case qrow=>exact B6 hCrow (Ce.alloc (ts:=[D2]) _) (by simp)
     case qc1=>rfl
     case qc2=>exact World.news_of_block (heap_alloc_new wr (.cells #[.int .i64 ch.Shape,.slice aqq ch.Queue.length cqq] D2))
     case qc3=>intro u hu;simp at hu;rcases hu with rfl | rfl<;>rfl
     case qc4=>have:=hs.c;unfold maxLen;omega
     case qc5=>have:=hs.c;omega
     case qc6=>simp;omega
     intro v2 w3 hown3 hgrow3 _
     have hblk3:w3.heap[w.heap.size+1+1]?=some (.cells #[.slice aog s.Globals.length cg,ov,.slice none 0 0,.int .i64 s.Last,.int .i64 s.Alone,.int .i64 s.Claim] BJ (0,0)):=by
      rw[hgrow3.block _ (by simp<;>omega) (fun e=>by obtain⟨cur,hcur⟩:=AW hCrow e.symm;exact Ef hcur hblkB (by decide) rfl),Below.heap_alloc _ _ _ (BO hblkB)];exact hblkB
     have e0:w3.cell? ⟨w.heap.size+1+1,1,none⟩=some ov:=Ai hblk3 rfl
     have e1:w3.frozen? ⟨w.heap.size+1+1,1,none⟩=false:=Ay hblk3
     have HC:Hid (Hn (w3.setCell ⟨w.heap.size+1+1,1,none⟩ v2) wl.heap.size v2 (qs++[.slice aqq ch.Queue.length cqq]) (s.Chans.take (k+1))):=by
      unfold Hid
      rw[GI HQ.out]
      exact Hn.kept (ts:=[D2,GZ,D3]) (Hn.more (hCr.kept (ts:=[D2,GZ,D3]) (Ce.alloc _) (by simp) (by simp) (by simp)) ((hQ.base (by omega)).kept (ts:=[GZ,D3]) (Ce.alloc _) (by simp) (by simp)) (by rw[hkl];exact hown3) hgrow3) (Ce.set hblk3 (by decide)) (by simp) (by simp) (by simp)
     have HK:Hid ((w3.setCell ⟨w.heap.size+1+1,1,none⟩ v2).heap[w.heap.size+1+1]?=some (.cells #[.slice aog s.Globals.length cg,v2,.slice none 0 0,.int .i64 s.Last,.int .i64 s.Alone,.int .i64 s.Claim] BJ (0,0))):=by
      unfold Hid;rw[A1 hblk3];rfl
     have HT:Hid (Cb wl (w3.setCell ⟨w.heap.size+1+1,1,none⟩ v2) (fun b=>b=w.heap.size+1+1)) :=
      ((((hT.trans (Cb.of_below (F:=fun _=>False) G1) (fun _ h=>h.elim)).trans (Cb.of_below (F:=fun _=>False) (G2 ▸ hBq)) (fun _ h=>h.elim)).alloc _).grown hgrow3 (fun k hk=>.inr (hCrow.lt k hk).1)).setCell (.inl rfl) _
     obtain⟨ao3,cap3,rfl,_⟩:=Dd hown3
     clear hown3 hgrow3 hCrow hCr hblkB hblkc hQ hBq G0 G1 hblk3 x0 x1 hq3
     go_wp2
     go_roundw
     case rel=>exact⟨k+1,HL.out,by go_num,_,_,HK.out,HC.out,HT.out⟩
     case measure=>have:=HL.out;simp[intOf];omega
  ·obtain rfl:k=s.Chans.length:=by omega
   rw[Al1]at hC
   have hfb:wl.heap.size<=wo.heap.size:=hT.size
   have hWo:Below w.heap.size w wo:=FB.trans (hT.below FB.size (fun j hj=>by subst hj;omega))
   have f0:wo.heap[w.heap.size]?=_:=(hT.block _ (by omega) (fun e=>absurd (show w.heap.size=w.heap.size+1+1 from e) (by omega))).trans F0
   have f1:wo.heap[w.heap.size+1]?=_:=(hT.block _ (by omega) (fun e=>absurd (show w.heap.size+1=w.heap.size+1+1 from e) (by omega))).trans F1
   have s0:wo.cell? ⟨w.heap.size,2,none⟩=some (.slice ap s.Procs.length capp):=Ai f0 rfl
   have HG:Hid (I8 wo (w.heap.size+1+1+1) (.slice aog s.Globals.length cg) s.Globals):=CE FG fun b hb=>hT.block b (FG.lt b hb).2 (fun e=>by have:=(FG.lt b hb).1;omega)
   have HG1:Hid (∀ b,(Value.slice aog s.Globals.length cg).ownBlock=some b->b<wl.heap.size):=fun b hb=>(FG.lt b hb).2
   clear FG F0 F1 F2 hg3 hc3
   go_wp2
   go_loopw [51] (fun i wr=>∃ k:Nat,k<=s.Procs.length/\i=.int .i64 k/\∃ pv fs,wr.heap[w.heap.size+1+1]?=some (.cells #[.slice aog s.Globals.length cg,ov,pv,.int .i64 s.Last,.int .i64 s.Alone,.int .i64 s.Claim] BJ (0,0))/\FN wr wo.heap.size pv fs (s.Procs.take k)/\Cb wo wr (fun b=>b=w.heap.size+1+1)) (fun i _=>s.Procs.length - (intOf i).toNat)
   case atStart=>exact⟨0,AkV _,rfl,.slice none 0 0,[],hB,FN.nil _ _,Cb.refl _ _⟩
   case round =>
    obtain⟨k,hk,rfl,pv,fs,hB2,hP,hT2⟩:=hrel
    have hsz2:=hT2.size
    by_cases hlt:k<s.Procs.length
    ·obtain⟨b,off,rfl,hbl,hrow⟩:=hp3 (by omega)
     obtain⟨u,hu0,hu1,hu2,hu3,hq⟩:=hrow k hlt
     have hWr:Below w.heap.size w wr:=hWo.trans (hT2.below hWo.size (fun j hj=>by subst hj;omega))
     rw[← hWr.cell (p:=⟨b,off+k*4,none⟩) hbl]at hu0
     rw[← hWr.cell (p:=⟨b,off+k*4+1,none⟩) hbl]at hu1
     rw[← hWr.cell (p:=⟨b,off+k*4+2,none⟩) hbl]at hu2
     rw[← hWr.cell (p:=⟨b,off+k*4+3,none⟩) hbl]at hu3
     have hx':=hq.below hWr
     have HQ:Hid (s.Procs[k]?=some (s.Procs.getD k default)):=by unfold Hid;simp[List.getD,hlt]
     have hm8:=hs.f (s.Procs.getD k default) (Aw hlt)
     clear hrow hq
     generalize s.Procs.getD k default=ch at *
     obtain⟨aq,capq,rfl,hq1,hq2,hq3⟩:=id hx'
     clear hq3
     unfold maxLen at hq2
     have hPr:=hP.row
     have hkl:(s.Procs.take k).length=k:=by simp;omega
     rw[hkl]at hPr
     have HL:=Lib.hid hlt
     go_wp2_with (first | (go_at_call 24;refine(ZL (hx'.alloc _) hm8).mono ?_;rintro e w2 ⟨v',rfl,hm2,hb2⟩;obtain⟨ao',cap',rfl,_⟩:=Dd hm2;obtain⟨cc2,cf2⟩:=Afz hb2;have hblkB2:=(hb2.block _ (Ale (BO hB2) (by simp))).trans ((Below.heap_alloc _ _ _ (BO hB2)).trans hB2);have y2:w2.cell? ⟨w.heap.size+1+1,2,none⟩=some pv:=Ai hblkB2 rfl) | (at_builtin;refine wpList_append_own _ rfl _ _ 33 rfl wo.heap.size Es kp (.agg #[.int .i64 0,.int .i64 0,.int .i64 0,.slice none 0 0]) 4 48 Tryz.underlying33 khp kpz0 kpz1 kpz2 rfl (by decide) pv k (DA (s.Procs.take k) fs) rfl ?qrow ⟨w2.heap.size,0,none⟩ 1 1 [.int .i64 ch.Type_,.int .i64 ch.Loc,.int .i64 ch.Prio,.slice ao' ch.Frame.length cap'] rfl ?qc1 ?qc2 ?qc3 ?qc4 ?qc5 ?qc6 ?_))
     case qrow =>
      have K:Ce wr (w2.setCell ⟨wr.heap.size,3,none⟩ (.slice ao' ch.Frame.length cap')) wo.heap.size [Es]:=Ce.of fun b _ hb=>(Below.heap_setCell _ _ _ _ (by simp;omega)).trans ((hb2.block b (by simp;omega)).trans (Below.heap_alloc _ _ _ hb))
      exact B6 (B6 hPr K (by simp)) (Ce.alloc (ts:=[Es]) _) (by simp)
     case qc1=>rfl
     case qc2 =>
      have:=World.news_of_block (heap_alloc_new (w2.setCell ⟨wr.heap.size,3,none⟩ (.slice ao' ch.Frame.length cap')) (.cells #[.int .i64 ch.Type_,.int .i64 ch.Loc,.int .i64 ch.Prio,.slice ao' ch.Frame.length cap'] Es))
      simpa using this
     case qc3=>intro u hu;simp at hu;rcases hu with rfl | rfl | rfl | rfl<;>rfl
     case qc4=>have:=hs.p;unfold maxLen;omega
     case qc5=>have:=hs.p;omega
     case qc6=>have:=hb2.size;simp at this;simp;omega
     intro v2 w3 hown3 hgrow3 _
     have hz2:=hb2.size
     simp at hz2
     have hblkz:(w2.setCell ⟨wr.heap.size,3,none⟩ (.slice ao' ch.Frame.length cap')).heap[w.heap.size+1+1]?=some (.cells #[.slice aog s.Globals.length cg,ov,pv,.int .i64 s.Last,.int .i64 s.Alone,.int .i64 s.Claim] BJ (0,0)) :=
      (Below.heap_setCell _ _ _ _ (by simp;omega)).trans hblkB2
     have hblk3:w3.heap[w.heap.size+1+1]?=some (.cells #[.slice aog s.Globals.length cg,ov,pv,.int .i64 s.Last,.int .i64 s.Alone,.int .i64 s.Claim] BJ (0,0)):=by
      rw[hgrow3.block _ (by simp;omega) (fun e=>by obtain⟨cur,hcur⟩:=AW hPr e.symm;exact Ef hcur hB2 (by decide) rfl),Below.heap_alloc _ _ _ (BO hblkz)];exact hblkz
     have e0:w3.cell? ⟨w.heap.size+1+1,2,none⟩=some pv:=Ai hblk3 rfl
     have e1:w3.frozen? ⟨w.heap.size+1+1,2,none⟩=false:=Ay hblk3
     have hPz:FN ((w2.setCell ⟨wr.heap.size,3,none⟩ (.slice ao' ch.Frame.length cap')).alloc (.cells #[.int .i64 ch.Type_,.int .i64 ch.Loc,.int .i64 ch.Prio,.slice ao' ch.Frame.length cap'] Es)) wo.heap.size pv fs (s.Procs.take k):=by
      have K:Ce wr (w2.setCell ⟨wr.heap.size,3,none⟩ (.slice ao' ch.Frame.length cap')) wo.heap.size [Es,D3]:=Ce.of fun b _ hb=>(Below.heap_setCell _ _ _ _ (by simp;omega)).trans ((hb2.block b (by simp;omega)).trans (Below.heap_alloc _ _ _ hb))
      exact(hP.kept K (by simp) (by simp)).kept (ts:=[Es,D3]) (Ce.alloc _) (by simp) (by simp)
     have hFz:I8 ((w2.setCell ⟨wr.heap.size,3,none⟩ (.slice ao' ch.Frame.length cap')).alloc (.cells #[.int .i64 ch.Type_,.int .i64 ch.Loc,.int .i64 ch.Prio,.slice ao' ch.Frame.length cap'] Es)) (wr.heap.size+1) (.slice ao' ch.Frame.length cap') ch.Frame :=
      B6 (ts:=[D3]) (B6 (ts:=[D3]) (CJ hm2 (by simp)) (Ce.low (by simp)) (by simp)) (Ce.alloc _) (by simp)
     have HP:Hid (FN (w3.setCell ⟨w.heap.size+1+1,2,none⟩ v2) wo.heap.size v2 (fs++[.slice ao' ch.Frame.length cap']) (s.Procs.take (k+1))):=by
      unfold Hid
      rw[GI HQ.out]
      refine FN.kept (ts:=[Es,D3]) (FN.more hPz (CJ hFz (by omega)) (fun i x b hx hb e=>?_) (by rw[hkl];exact hown3) hgrow3) (Ce.set hblk3 (by decide)) (by simp) (by simp)
      have hi:i<fs.length:=(AkR.1 hx).1
      rw[hP.len]at hi
      have h1:=((hP.each i x _ hx (Ak1 hi)).lt b hb).2
      have h2:=(hFz.lt b e).1
      omega
     have HK:Hid ((w3.setCell ⟨w.heap.size+1+1,2,none⟩ v2).heap[w.heap.size+1+1]?=some (.cells #[.slice aog s.Globals.length cg,ov,v2,.int .i64 s.Last,.int .i64 s.Alone,.int .i64 s.Claim] BJ (0,0))):=by
      unfold Hid;rw[A1 hblk3];rfl
     have HT:Hid (Cb wo (w3.setCell ⟨w.heap.size+1+1,2,none⟩ v2) (fun b=>b=w.heap.size+1+1)) :=
      ((((((hT2.alloc _).trans (Cb.of_below (F:=fun _=>False) hb2) (fun _ h=>h.elim)).setCell (.inr hsz2) _).alloc _).grown hgrow3 (fun k hk=>.inr (hPr.lt k hk).1)).setCell (.inl rfl) _)
     obtain⟨ao3,cap3,rfl,_⟩:=Dd hown3
     clear hown3 hgrow3 hPr hP hPz hFz hblkz hblkB2 hB2 hm2 hb2 cc2 cf2 hblk3 hT2 hx' y2
     go_wp2
     go_roundw
     case rel=>exact⟨k+1,HL.out,by go_num,_,_,HK.out,HP.out,HT.out⟩
     case measure=>have:=HL.out;simp[intOf];omega
    ·obtain rfl:k=s.Procs.length:=by omega
     rw[Al1]at hP
     have b1:wr.heap[w.heap.size+1]?=_:=(hT2.block _ (by omega) (fun e=>absurd (show w.heap.size+1=w.heap.size+1+1 from e) (by omega))).trans f1
     have c0:wr.cell? ⟨w.heap.size+1+1,0,none⟩=_:=Ai hB2 rfl
     have c1:wr.cell? ⟨w.heap.size+1+1,1,none⟩=_:=Ai hB2 rfl
     have c2:wr.cell? ⟨w.heap.size+1+1,2,none⟩=_:=Ai hB2 rfl
     have c3:wr.cell? ⟨w.heap.size+1+1,3,none⟩=_:=Ai hB2 rfl
     have c4:wr.cell? ⟨w.heap.size+1+1,4,none⟩=_:=Ai hB2 rfl
     have c5:wr.cell? ⟨w.heap.size+1+1,5,none⟩=_:=Ai hB2 rfl
     have d0:wr.cell? ⟨w.heap.size+1,0,none⟩=_:=Ai b1 rfl
     have d1:wr.cell? ⟨w.heap.size+1,1,none⟩=_:=Ai b1 rfl
     have d2:wr.cell? ⟨w.heap.size+1,2,none⟩=_:=Ai b1 rfl
     have d3:wr.cell? ⟨w.heap.size+1,3,none⟩=_:=Ai b1 rfl
     have d4:wr.cell? ⟨w.heap.size+1,4,none⟩=_:=Ai b1 rfl
     have d5:wr.cell? ⟨w.heap.size+1,5,none⟩=_:=Ai b1 rfl
     have g0:wr.frozen? ⟨w.heap.size+1,0,none⟩=_:=Ay b1
     have g1:wr.frozen? ⟨w.heap.size+1,1,none⟩=_:=Ay b1
     have g2:wr.frozen? ⟨w.heap.size+1,2,none⟩=_:=Ay b1
     have g3:wr.frozen? ⟨w.heap.size+1,3,none⟩=_:=Ay b1
     have g4:wr.frozen? ⟨w.heap.size+1,4,none⟩=_:=Ay b1
     have g5:wr.frozen? ⟨w.heap.size+1,5,none⟩=_:=Ay b1
     obtain⟨aov,cov,rfl,_⟩:=Dd hC.row
     obtain⟨apv,cpv,rfl,_⟩:=Dd hP.row
     go_wp2
     have hres:=MN b1 (.slice aog s.Globals.length cg) (.slice aov s.Chans.length cov) (.slice apv s.Procs.length cpv) (.int .i64 s.Last) (.int .i64 s.Alone) (.int .i64 s.Claim)
     have hT3:=Ic (w:=wr) (b:=w.heap.size+1) (.slice aog s.Globals.length cg) (.slice aov s.Chans.length cov) (.slice apv s.Procs.length cpv) (.int .i64 s.Last) (.int .i64 s.Alone) (.int .i64 s.Claim)
     have hz3:=AdJ (w:=wr) (b:=w.heap.size+1) (.slice aog s.Globals.length cg) (.slice aov s.Chans.length cov) (.slice apv s.Procs.length cpv) (.int .i64 s.Last) (.int .i64 s.Alone) (.int .i64 s.Claim)
     refine Rr rfl rfl hres Tryz.underlying35 rfl (by kernel_rfl) rfl ?_
     generalize ((((((wr.setCell ⟨w.heap.size+1,0,none⟩ (.slice aog s.Globals.length cg)).setCell ⟨w.heap.size+1,1,none⟩ (.slice aov s.Chans.length cov)).setCell ⟨w.heap.size+1,2,none⟩ (.slice apv s.Procs.length cpv)).setCell ⟨w.heap.size+1,3,none⟩ (.int .i64 s.Last)).setCell ⟨w.heap.size+1,4,none⟩ (.int .i64 s.Alone)).setCell ⟨w.heap.size+1,5,none⟩ (.int .i64 s.Claim))=wz at *
     have hWr:Below w.heap.size w wr:=hWo.trans (hT2.below hWo.size (fun j hj=>by subst hj;omega))
     have hGr:I8 wr (w.heap.size+1+1+1) (.slice aog s.Globals.length cg) s.Globals:=CE HG.out fun b hb=>hT2.block b (HG.out.lt b hb).2 (fun e=>by have:=(HG.out.lt b hb).1;omega)
     refine⟨_,_,_,wl.heap.size,qs,fs,wo,rfl,⟨?_,HG1.out,FB.size,hfb,hC,fun b h1 h2=>?_,?_,?_⟩⟩
     ·exact CJ (CE hGr fun b hb=>hT3.block b (hGr.lt b hb).2 (fun e=>by have:=(hGr.lt b hb).1;omega)) (by omega)
     ·exact(hT3.block b (by omega) (fun e=>by have e:b=w.heap.size+1:=e;omega)).trans (hT2.block b h2 (fun e=>by have e:b=w.heap.size+1+1:=e;omega))
     ·exact hP.kept (ts:=[Es,D3]) (Ce.of fun b h1 h2=>hT3.block b h2 (fun e=>by have e:b=w.heap.size+1:=e;omega)) (by simp) (by simp)
     ·exact hWr.trans (hT3.below hWr.size (fun j hj=>by have hj:j=w.heap.size+1:=hj;omega))
def QC : Ann:={ keep:=fun
  | [0,1,0,1,1,1,1,1,1]=>[0,8,10,46,47,48]
  | _=>[] }
def MQ : Ann:={ keep:=fun
  | [0,1,0,1,1,1,1,1,1]=>[0,3,8,9,51,52,53]
  | _=>[] }
def I6 : Ann:={ keep:=fun
  | [0,1,0,1]=>[0,9,10,11]
  | _=>[] }
def NE : Ann:={ keep:=fun
  | [0,1,0,1]=>[0,1,7,8]
  | _=>[] }
def QG : Ann:={ keep:=fun
  | [0,1,0,1]=>[1,2,3,12,13,14]
  | _=>[] }
def QF : Ann:={ keep:=fun
  | [0,1,0,1,1]=>[0,1,21,22,23]
  | _=>[] }
def DB : Ann:={ cut:=(fun | 1::0::1::1::0::0::0::0::q=>Nat.beq q.length 29 | 1::0::1::1::1::0::0::0::0::q=>Nat.beq q.length 29 | _=>false),keep:=fun
  | 1::0::1::1::0::0::0::0::q=>bif Nat.beq q.length 29 then[0,6,21,26] else[]
  | 1::0::1::1::1::0::0::0::0::q=>bif Nat.beq q.length 29 then[0,6,21,30] else[]
  | _=>[] }
def Agz : List Nat:=[1,1,0,1,0,0,0,0,0,0,0,0,0,0,0,0,0,0,0,0,0,0,0,0,0,0,0,0,0,0,0,0,0,1,1,0,1]
def AbH : List Nat:=[1,1,0,1,0,0,0,0,0,0,0,0,0,0,0,0,0,0,0,0,0,0,0,0,0,0,0,0,0,0,0,0,0,1,1,1,0,1]
def H1 (e:D.Env)(x:D.Expr)(i:Nat)(b:Bool):St:=Aq [(0,.tp (Ag e)),(6,.bp 0 0),(21,Aa x.Op),(i,Ac b)] [.box (AT x)]
def Px (e:D.Env)(ds:List D.Dim)(who at' k:Int):St:=Aq [(0,.tp (Ag e)),(8,Aa who),(10,Aa at'),(46,Df true ds),(47,Aa ds.length),(48,Aa k)] []
def WY (e:D.Env)(x:D.Expr)(c:D.Chan)(l:List Int)(k:Int):St:=Aq [(0,.tp (Ag e)),(3,.bp 0 0),(8,.bp 1 0),(9,.ow 2 0 l.length),(51,Ad true x.Args),(52,Aa x.Args.length),(53,Aa k)] [.box (AT x),.box (AL c),.arr true 0 l.length 1 (AE l)]
def SG (e:D.Env)(k:Int):St:=Aq [(0,.tp (Ag e)),(9,Ap true e.S.Procs),(10,Aa e.S.Procs.length),(11,Aa k)] []
def YQ (l:List Int)(v k:Int):St:=Aq [(0,Ad true l),(1,Aa v),(7,Aa l.length),(8,Aa k)] []
def SJ (c:D.Chan)(l mt:List Int)(any:Bool)(k:Int):St:=Aq [(1,Ad false l),(2,Ad true mt),(3,Ac any),(12,BL true c.Queue),(13,Aa c.Queue.length),(14,Aa k)] []
def SH (x l mt:List Int)(k:Int):St:=Aq [(0,Ad true x),(1,Ad false l),(21,Ad true mt),(22,Aa mt.length),(23,Aa k)] []
set_option maxRecDepth 100000
theorem Vu (r:Int)(e:D.Env)(x:Int):(fc C7 AM Tryz.f93 [] (Aa r)).goal (St.init [] [.agg (Ag e),Aa x]) =
  (∃ (y:Int),VC 38 [VV.agg (Ae e.M),VV.agg (Af e.S)] (Aa y)/\BB (y != 0) (LQ (Aa y) (Aa r)) (BB (bif bif bif decide (e.Pid<(-1:Int)) then true else decide (e.Pid>=(↑e.S.Procs.length:Int)) then true else decide (x<0) then true else decide (x>=(↑e.M.Exprs.length:Int))) (LQ (Aa 42) (Aa r)) (LQ (Aa 0) (Aa r)))):=by kernel_rfl
theorem AcC (v r:Int)(e:D.Env)(x:Int):(fc C7 AM Tryz.f61 [] (.tup [Aa v,Aa r])).goal (St.init [] [.agg (Ag e),Aa x]) =
  (∃ (y:Int),VC 93 [VV.agg (Ag e),Aa x] (Aa y)/\BB (y != 0) (LQ (VV.tup [Aa 0,Aa y]) (VV.tup [Aa v,Aa r])) (∃ (y:Int × Int),VC 94 [VV.tp (Ag e),Aa x] (VV.tup [Aa y.fst,Aa y.snd])/\LQ (VV.tup [Aa y.fst,Aa y.snd]) (VV.tup [Aa v,Aa r]))):=by kernel_rfl
theorem AcD (v r:Int)(e:D.Env)(x:Int):(fc C7 AM Tryz.f183 [] (.tup [Aa v,Aa r])).goal (St.init [] [.agg (Ag e),Aa x]) =
  (∃ (y:Int),VC 93 [VV.agg (Ag e),Aa x] (Aa y)/\BB (y != 0) (LQ (VV.tup [Aa 0,Aa y]) (VV.tup [Aa v,Aa r])) (∃ (y:Int × Int),VC 171 [VV.tp (Ag e),Aa x] (VV.tup [Aa y.fst,Aa y.snd])/\LQ (VV.tup [Aa y.fst,Aa y.snd]) (VV.tup [Aa v,Aa r]))):=by kernel_rfl
theorem AaG (v r:Int)(c:Bool):(fc C7 AM Tryz.f132 [] (.tup [Aa v,Aa r])).goal (St.init [] [Ac c]) =
  (BB c (LQ (VV.tup [Aa 1,Aa 0]) (VV.tup [Aa v,Aa r])) (LQ (VV.tup [Aa 0,Aa 0]) (VV.tup [Aa v,Aa r]))):=by kernel_rfl
theorem XT (v r:Int)(e:D.Env)(x:D.Var):(fc C7 AM Tryz.f169 [] (.tup [Aa v,Aa r])).goal (St.init [] [.tp (Ag e),.agg (Ct x)]) =
  (BB (x.Scope==0) (∃ (y:Int),VC 116 [VV.agg (Ct x)] (Aa y)/\BB (decide (y > (↑e.S.Globals.length:Int))) (LQ (VV.tup [Aa 0,Aa 42]) (VV.tup [Aa v,Aa r])) (LQ (VV.tup [Aa (-1),Aa 0]) (VV.tup [Aa v,Aa r]))) (BB (x.Scope==1) (∃ (y:Int),((true&&decide (e.Pid<0)==false)=true->VC 116 [VV.agg (Ct x)] (Aa y))/\((true&&decide (e.Pid<0)==false)=true->inX e.Pid e.S.Procs.length)/\BB (bif decide (e.Pid<0) then true else decide (y > (↑(e.S.Procs.getD e.Pid.toNat default).Frame.length:Int))) (LQ (VV.tup [Aa 0,Aa 42]) (VV.tup [Aa v,Aa r])) (LQ (VV.tup [Aa e.Pid,Aa 0]) (VV.tup [Aa v,Aa r]))) (∃ (y:Int × Int),VC 94 [VV.tp (Ag e),Aa x.Who] (VV.tup [Aa y.fst,Aa y.snd])/\BB (y.snd != 0) (LQ (VV.tup [Aa 0,Aa y.snd]) (VV.tup [Aa v,Aa r])) (((true&&(bif decide (y.fst<0) then true else decide (y.fst>=(↑e.S.Procs.length:Int)))==false)=true->inX y.fst e.S.Procs.length)/\BB (bif bif decide (y.fst<0) then true else decide (y.fst>=(↑e.S.Procs.length:Int)) then true else(e.S.Procs.getD y.fst.toNat default).Type_ != x.Type_) (LQ (VV.tup [Aa 0,Aa 52]) (VV.tup [Aa v,Aa r])) (∃ (y_1:Int),VC 116 [VV.agg (Ct x)] (Aa y_1)/\inX y.fst e.S.Procs.length/\BB (decide (y_1 > (↑(e.S.Procs.getD y.fst.toNat default).Frame.length:Int))) (LQ (VV.tup [Aa 0,Aa 42]) (VV.tup [Aa v,Aa r])) (LQ (VV.tup [Aa y.fst,Aa 0]) (VV.tup [Aa v,Aa r]))))))):=by kernel_rfl
theorem AdI (p k r:Int)(e:D.Env)(x:Int):(fc C7 QC Tryz.f128 [] (.tup [Aa p,Aa k,Aa r])).goal (St.init [] [.tp (Ag e),Aa x]) =
  (inX x e.M.Exprs.length/\inX x e.M.Exprs.length/\BB ((e.M.Exprs.getD x.toNat default).Op != 2) (LQ (VV.tup [Aa 0,Aa 0,Aa 42]) (VV.tup [Aa p,Aa k,Aa r])) (∃ (y:Int × Int),VC 169 [VV.tp (Ag e),VV.agg (Ct (e.M.Exprs.getD x.toNat default).V)] (VV.tup [Aa y.fst,Aa y.snd])/\BB (y.snd != 0) (LQ (VV.tup [Aa 0,Aa 0,Aa y.snd]) (VV.tup [Aa p,Aa k,Aa r])) (AB (fc C7 QC Tryz.f128 [] (VV.tup [Aa p,Aa k,Aa r])) [1,1,1,1,1,1,0,1,0] (Px e (e.M.Exprs.getD x.toNat default).V.Dims y.fst (e.M.Exprs.getD x.toNat default).V.Slot (0:Int))))):=by kernel_rfl
theorem Aaj (v r:Int)(e:D.Env)(x:Int):(fc C7 AM Tryz.f171 [] (.tup [Aa v,Aa r])).goal (St.init [] [.tp (Ag e),Aa x]) =
  (∃ (y:Int × Int),VC 94 [VV.tp (Ag e),Aa x] (VV.tup [Aa y.fst,Aa y.snd])/\BB (y.snd != 0) (LQ (VV.tup [Aa 0,Aa y.snd]) (VV.tup [Aa v,Aa r])) (BB (bif decide (y.fst<1) then true else decide (y.fst > (↑e.S.Chans.length:Int))) (LQ (VV.tup [Aa 0,Aa 49]) (VV.tup [Aa v,Aa r])) (LQ (VV.tup [Aa y.fst,Aa 0]) (VV.tup [Aa v,Aa r])))):=by kernel_rfl
theorem AfB (v r:Int)(e:D.Env)(x:D.Expr):(fc C7 AM Tryz.f130 [] (.tup [Aa v,Aa r])).goal (St.init [] [.tp (Ag e),.agg (AT x)]) =
  (∃ (y:Int × Int),VC 171 [VV.tp (Ag e),Aa x.A] (VV.tup [Aa y.fst,Aa y.snd])/\BB (y.snd != 0) (LQ (VV.tup [Aa 0,Aa y.snd]) (VV.tup [Aa v,Aa r])) (inX (IntKind.i64.wrap (y.fst - (1:Int))) e.S.Chans.length/\inX (e.S.Chans.getD (IntKind.i64.wrap (y.fst - (1:Int))).toNat default).Shape e.M.Shapes.length/\BB (x.Op==25) (LQ (VV.tup [Aa (↑(e.S.Chans.getD (IntKind.i64.wrap (y.fst - (1:Int))).toNat default).Queue.length:Int),Aa 0]) (VV.tup [Aa v,Aa r])) (BB (x.Op==26) (∃ (y_1:Int × Int),VC 132 [Ac (decide ((↑(e.S.Chans.getD (IntKind.i64.wrap (y.fst - (1:Int))).toNat default).Queue.length:Int)>=(e.M.Shapes.getD (e.S.Chans.getD (IntKind.i64.wrap (y.fst - (1:Int))).toNat default).Shape.toNat default).Room))] (VV.tup [Aa y_1.fst,Aa y_1.snd])/\LQ (VV.tup [Aa y_1.fst,Aa y_1.snd]) (VV.tup [Aa v,Aa r])) (BB (x.Op==28) (∃ (y_1:Int × Int),VC 132 [Ac (decide ((↑(e.S.Chans.getD (IntKind.i64.wrap (y.fst - (1:Int))).toNat default).Queue.length:Int)<(e.M.Shapes.getD (e.S.Chans.getD (IntKind.i64.wrap (y.fst - (1:Int))).toNat default).Shape.toNat default).Room))] (VV.tup [Aa y_1.fst,Aa y_1.snd])/\LQ (VV.tup [Aa y_1.fst,Aa y_1.snd]) (VV.tup [Aa v,Aa r])) (BB (x.Op==27) (∃ (y_1:Int × Int),VC 132 [Ac ((↑(e.S.Chans.getD (IntKind.i64.wrap (y.fst - (1:Int))).toNat default).Queue.length:Int)==0)] (VV.tup [Aa y_1.fst,Aa y_1.snd])/\LQ (VV.tup [Aa y_1.fst,Aa y_1.snd]) (VV.tup [Aa v,Aa r])) (∃ (y_1:Int × Int),VC 132 [Ac (decide ((↑(e.S.Chans.getD (IntKind.i64.wrap (y.fst - (1:Int))).toNat default).Queue.length:Int) > 0))] (VV.tup [Aa y_1.fst,Aa y_1.snd])/\LQ (VV.tup [Aa y_1.fst,Aa y_1.snd]) (VV.tup [Aa v,Aa r]))))))):=by kernel_rfl
theorem Aes (v r:Int)(e:D.Env)(x:D.Expr):(fc C7 MQ Tryz.f131 [] (.tup [Aa v,Aa r])).goal (St.init [] [.tp (Ag e),.agg (AT x)]) =
  (∃ (y:Int × Int),VC 171 [VV.tp (Ag e),Aa x.A] (VV.tup [Aa y.fst,Aa y.snd])/\BB (y.snd != 0) (LQ (VV.tup [Aa 0,Aa y.snd]) (VV.tup [Aa v,Aa r])) (inX (IntKind.i64.wrap (y.fst - (1:Int))) e.S.Chans.length/\inX (e.S.Chans.getD (IntKind.i64.wrap (y.fst - (1:Int))).toNat default).Shape e.M.Shapes.length/\BB ((↑(e.M.Shapes.getD (e.S.Chans.getD (IntKind.i64.wrap (y.fst - (1:Int))).toNat default).Shape.toNat default).Fields.length:Int) != (↑x.Args.length:Int)) (LQ (VV.tup [Aa 0,Aa 49]) (VV.tup [Aa v,Aa r])) (((0:Int)<=(↑x.Args.length:Int)/\(↑x.Args.length:Int)<=(↑x.Args.length:Int)/\(↑x.Args.length:Int)*(↑8:Int)<=140737488355328)/\AB (fc C7 MQ Tryz.f131 [] (VV.tup [Aa v,Aa r])) [1,1,1,1,1,1,0,1,0] (Aq [(0,VV.tp (Ag e)),(3,VV.bp 0 0),(8,VV.bp 1 0),(9,VV.ow 2 0 (↑x.Args.length:Int).toNat),(51,Ad true x.Args),(52,Aa (↑x.Args.length:Int)),(53,Aa 0)] [Ob.box (AT x),Ob.box (AL (e.S.Chans.getD (IntKind.i64.wrap (y.fst - (1:Int))).toNat default)),Ob.arr true 0 (↑x.Args.length:Int).toNat 1 fun(_:Nat)=>((fc C7 MQ Tryz.f131 [] (VV.tup [Aa v,Aa r])).T 2).zero])))):=by kernel_rfl
theorem Xh (v r:Int)(e:D.Env)(x:D.Expr):(fc C7 AM Tryz.f134 [] (.tup [Aa v,Aa r])).goal (St.init [] [.tp (Ag e),.agg (AT x)]) =
  (∃ (y:Int × Int),VC 94 [VV.tp (Ag e),Aa x.A] (VV.tup [Aa y.fst,Aa y.snd])/\BB (y.snd != 0) (LQ (VV.tup [Aa 0,Aa y.snd]) (VV.tup [Aa v,Aa r])) (((true&&(bif decide (y.fst<0) then true else decide (y.fst>=(↑e.S.Procs.length:Int)))==false&&(x.Op==38)==true)=true->inX y.fst e.S.Procs.length)/\BB (bif bif decide (y.fst<0) then true else decide (y.fst>=(↑e.S.Procs.length:Int)) then true else bif x.Op==38 then(e.S.Procs.getD y.fst.toNat default).Type_ != x.N else false) (LQ (VV.tup [Aa 0,Aa 52]) (VV.tup [Aa v,Aa r])) (BB (x.Op==37) (inX y.fst e.S.Procs.length/\LQ (VV.tup [Aa (e.S.Procs.getD y.fst.toNat default).Loc,Aa 0]) (VV.tup [Aa v,Aa r])) (inX y.fst e.S.Procs.length/\∃ (y_1:Bool),VC 173 [Ad true x.Args,Aa (e.S.Procs.getD y.fst.toNat default).Loc] (Ac y_1)/\∃ (y:Int × Int),VC 132 [Ac y_1] (VV.tup [Aa y.fst,Aa y.snd])/\LQ (VV.tup [Aa y.fst,Aa y.snd]) (VV.tup [Aa v,Aa r]))))):=by kernel_rfl
theorem Ab0 (v r:Int)(e:D.Env)(x:D.Expr):(fc C7 AM Tryz.f129 [] (.tup [Aa v,Aa r])).goal (St.init [] [.tp (Ag e),.agg (AT x)]) =
  (∃ (y:Int × Int),VC 94 [VV.tp (Ag e),Aa x.A] (VV.tup [Aa y.fst,Aa y.snd])/\BB (y.snd != 0) (LQ (VV.tup [Aa 0,Aa y.snd]) (VV.tup [Aa v,Aa r])) (BB (bif x.Op==24 then y.fst != 0 else false) (∃ (y:Int × Int),VC 170 [Aa x.B,VV.tp [VV.tp (Ag e)]] (VV.tup [Aa y.fst,Aa y.snd])/\LQ (VV.tup [Aa y.fst,Aa y.snd]) (VV.tup [Aa v,Aa r])) (BB (x.Op==24) (∃ (y:Int × Int),VC 170 [Aa x.C,VV.tp [VV.tp (Ag e)]] (VV.tup [Aa y.fst,Aa y.snd])/\LQ (VV.tup [Aa y.fst,Aa y.snd]) (VV.tup [Aa v,Aa r])) (BB (bif bif x.Op==22 then y.fst==0 else false then true else bif x.Op==23 then y.fst != 0 else false) (∃ (y_1:Int × Int),VC 132 [Ac (y.fst != 0)] (VV.tup [Aa y_1.fst,Aa y_1.snd])/\LQ (VV.tup [Aa y_1.fst,Aa y_1.snd]) (VV.tup [Aa v,Aa r])) (∃ (y:Int × Int),VC 170 [Aa x.B,VV.tp [VV.tp (Ag e)]] (VV.tup [Aa y.fst,Aa y.snd])/\BB (y.snd != 0) (LQ (VV.tup [Aa 0,Aa y.snd]) (VV.tup [Aa v,Aa r])) (∃ (y_1:Int × Int),VC 132 [Ac (y.fst != 0)] (VV.tup [Aa y_1.fst,Aa y_1.snd])/\LQ (VV.tup [Aa y_1.fst,Aa y_1.snd]) (VV.tup [Aa v,Aa r]))))))):=by kernel_rfl
theorem Adv (v r:Int)(e:D.Env)(x:D.Expr):(fc C7 AM Tryz.f135 [] (.tup [Aa v,Aa r])).goal (St.init [] [.tp (Ag e),.agg (AT x)]) =
  (∃ (y:Int × Int),VC 94 [VV.tp (Ag e),Aa x.A] (VV.tup [Aa y.fst,Aa y.snd])/\BB (y.snd != 0) (LQ (VV.tup [Aa 0,Aa y.snd]) (VV.tup [Aa v,Aa r])) (BB (bif bif x.Op==3 then true else x.Op==4 then true else x.Op==5) (∃ (y_1:Int × Int),VC 174 [Aa x.Op,Aa y.fst] (VV.tup [Aa y_1.fst,Aa y_1.snd])/\LQ (VV.tup [Aa y_1.fst,Aa y_1.snd]) (VV.tup [Aa v,Aa r])) (∃ (y_1:Int × Int),VC 94 [VV.tp (Ag e),Aa x.B] (VV.tup [Aa y_1.fst,Aa y_1.snd])/\BB (y_1.snd != 0) (LQ (VV.tup [Aa 0,Aa y_1.snd]) (VV.tup [Aa v,Aa r])) (∃ (y_2:Int × Int),VC 175 [Aa x.Op,Aa y.fst,Aa y_1.fst] (VV.tup [Aa y_2.fst,Aa y_2.snd])/\LQ (VV.tup [Aa y_2.fst,Aa y_2.snd]) (VV.tup [Aa v,Aa r]))))):=by kernel_rfl
theorem SW (b:Bool)(e:D.Env):(fc C7 I6 Tryz.f133 [] (Ac b)).goal (St.init [] [.tp (Ag e)]) =
  (AB (fc C7 I6 Tryz.f133 [] (Ac b)) [1,0,1,0] (SG e (0:Int))):=by kernel_rfl
theorem Afc (v r:Int)(e:D.Env)(x:Int):(fc C7 DB Tryz.f94 [] (.tup [Aa v,Aa r])).goal (St.init [] [.tp (Ag e),Aa x]) =
  (inX x e.M.Exprs.length/\BB ((e.M.Exprs.getD x.toNat default).Op==1) (LQ (VV.tup [Aa (e.M.Exprs.getD x.toNat default).N,Aa 0]) (VV.tup [Aa v,Aa r])) (BB ((e.M.Exprs.getD x.toNat default).Op==2) (∃ (y:Int × Int × Int),VC 128 [VV.tp (Ag e),Aa x] (VV.tup [Aa y.fst,Aa y.snd.fst,Aa y.snd.snd])/\BB (y.snd.snd != 0) (LQ (VV.tup [Aa 0,Aa y.snd.snd]) (VV.tup [Aa v,Aa r])) (BB (decide (y.fst<0)) (inX y.snd.fst e.S.Globals.length/\LQ (VV.tup [Aa (e.S.Globals.getD y.snd.fst.toNat 0),Aa 0]) (VV.tup [Aa v,Aa r])) (inX y.fst e.S.Procs.length/\inX y.snd.fst (e.S.Procs.getD y.fst.toNat default).Frame.length/\LQ (VV.tup [Aa ((e.S.Procs.getD y.fst.toNat default).Frame.getD y.snd.fst.toNat 0),Aa 0]) (VV.tup [Aa v,Aa r])))) (BB ((e.M.Exprs.getD x.toNat default).Op==22) (AB (fc C7 DB Tryz.f94 [] (VV.tup [Aa v,Aa r])) Agz (H1 e (e.M.Exprs.getD x.toNat default) 26 ((e.M.Exprs.getD x.toNat default).Op==22))) (BB ((e.M.Exprs.getD x.toNat default).Op==23) (AB (fc C7 DB Tryz.f94 [] (VV.tup [Aa v,Aa r])) Agz (H1 e (e.M.Exprs.getD x.toNat default) 26 ((e.M.Exprs.getD x.toNat default).Op==23))) (AB (fc C7 DB Tryz.f94 [] (VV.tup [Aa v,Aa r])) Agz (H1 e (e.M.Exprs.getD x.toNat default) 26 ((e.M.Exprs.getD x.toNat default).Op==24))))))):=by kernel_rfl
theorem Tw (b:Bool)(l:List Int)(v:Int):(fc C7 AM Tryz.f173 [] (Ac b)).goal (St.init [] [Ad true l,Aa v]) =
  (∃ (y:Int),VC 193 [Ad true l,Aa v] (Aa y)/\LQ (Ac (decide (y>=0))) (Ac b)):=by kernel_rfl
theorem Ab7 (r:Int)(l:List Int)(v:Int):(fc C7 NE Tryz.f193 [] (Aa r)).goal (St.init [] [Ad true l,Aa v]) =
  (AB (fc C7 NE Tryz.f193 [] (Aa r)) [1,0,1,0] (YQ l v (0:Int))):=by kernel_rfl
theorem Ae9 (r:Int)(c:D.Chan)(l mt:List Int)(some':Bool):(fc C7 QG Tryz.f172 [] (Aa r)).goal (St.init [] [.agg (AL c),Ad false l,Ad true mt,Ac some']) =
  (AB (fc C7 QG Tryz.f172 [] (Aa r)) [1,0,1,0] (SJ c l mt some' (0:Int))):=by kernel_rfl
theorem AeC (b:Bool)(x l mt:List Int):(fc C7 QF Tryz.f192 [] (Ac b)).goal (St.init [] [Ad true x,Ad false l,Ad true mt]) =
  (BB (bif decide ((↑x.length:Int)<(↑mt.length:Int)) then true else decide ((↑l.length:Int)<(↑mt.length:Int))) (LQ (Ac false) (Ac b)) (AB (fc C7 QF Tryz.f192 [] (Ac b)) [1,1,0,1,0] (SH x l mt (0:Int)))):=by kernel_rfl
theorem Acx (v r:Int)(e:D.Env)(x:D.Expr)(b:Bool):((fc C7 DB Tryz.f94 [] (.tup [Aa v,Aa r])).cut Agz).goal (H1 e x 26 b) =
  (BB b (∃ (y:Int × Int),VC 129 [VV.tp (Ag e),VV.agg (AT x)] (VV.tup [Aa y.fst,Aa y.snd])/\LQ (VV.tup [Aa y.fst,Aa y.snd]) (VV.tup [Aa v,Aa r])) (BB (x.Op==25) (AB (fc C7 DB Tryz.f94 [] (VV.tup [Aa v,Aa r])) AbH (H1 e x 30 (x.Op==25))) (BB (x.Op==26) (AB (fc C7 DB Tryz.f94 [] (VV.tup [Aa v,Aa r])) AbH (H1 e x 30 (x.Op==26))) (BB (x.Op==27) (AB (fc C7 DB Tryz.f94 [] (VV.tup [Aa v,Aa r])) AbH (H1 e x 30 (x.Op==27))) (BB (x.Op==28) (AB (fc C7 DB Tryz.f94 [] (VV.tup [Aa v,Aa r])) AbH (H1 e x 30 (x.Op==28))) (AB (fc C7 DB Tryz.f94 [] (VV.tup [Aa v,Aa r])) AbH (H1 e x 30 (x.Op==29)))))))):=by kernel_rfl
theorem Acw (v r:Int)(e:D.Env)(x:D.Expr)(b:Bool):((fc C7 DB Tryz.f94 [] (.tup [Aa v,Aa r])).cut AbH).goal (H1 e x 30 b) =
  (BB b (∃ (y:Int × Int),VC 130 [VV.tp (Ag e),VV.agg (AT x)] (VV.tup [Aa y.fst,Aa y.snd])/\LQ (VV.tup [Aa y.fst,Aa y.snd]) (VV.tup [Aa v,Aa r])) (BB (x.Op==30) (∃ (y:Int × Int),VC 131 [VV.tp (Ag e),VV.agg (AT x)] (VV.tup [Aa y.fst,Aa y.snd])/\LQ (VV.tup [Aa y.fst,Aa y.snd]) (VV.tup [Aa v,Aa r])) (BB (x.Op==31) (LQ (VV.tup [Aa e.Pid,Aa 0]) (VV.tup [Aa v,Aa r])) (BB (x.Op==32) (LQ (VV.tup [Aa e.S.Last,Aa 0]) (VV.tup [Aa v,Aa r])) (BB (x.Op==33) (LQ (VV.tup [Aa (↑e.S.Procs.length:Int),Aa 0]) (VV.tup [Aa v,Aa r])) (BB (x.Op==34) (∃ (y:Bool),VC 133 [VV.tp (Ag e)] (Ac y)/\∃ (y_1:Int × Int),VC 132 [Ac !y] (VV.tup [Aa y_1.fst,Aa y_1.snd])/\LQ (VV.tup [Aa y_1.fst,Aa y_1.snd]) (VV.tup [Aa v,Aa r])) (BB (x.Op==35) (∃ (y:Int × Int),VC 132 [Ac e.Timeout] (VV.tup [Aa y.fst,Aa y.snd])/\LQ (VV.tup [Aa y.fst,Aa y.snd]) (VV.tup [Aa v,Aa r])) (BB (x.Op==36) (∃ (y:Int × Int),VC 94 [VV.tp (Ag e),Aa x.A] (VV.tup [Aa y.fst,Aa y.snd])/\BB (y.snd != 0) (LQ (VV.tup [Aa 0,Aa y.snd]) (VV.tup [Aa v,Aa r])) (((true&&(bif decide (y.fst>=0) then decide (y.fst<(↑e.Able.length:Int)) else false)==true)=true->inX y.fst e.Able.length)/\∃ (y_1:Int × Int),VC 132 [Ac (bif bif decide (y.fst>=0) then decide (y.fst<(↑e.Able.length:Int)) else false then e.Able.getD y.fst.toNat false else false)] (VV.tup [Aa y_1.fst,Aa y_1.snd])/\LQ (VV.tup [Aa y_1.fst,Aa y_1.snd]) (VV.tup [Aa v,Aa r]))) (BB (x.Op==37) (∃ (y:Int × Int),VC 134 [VV.tp (Ag e),VV.agg (AT x)] (VV.tup [Aa y.fst,Aa y.snd])/\LQ (VV.tup [Aa y.fst,Aa y.snd]) (VV.tup [Aa v,Aa r])) (BB (x.Op==38) (∃ (y:Int × Int),VC 134 [VV.tp (Ag e),VV.agg (AT x)] (VV.tup [Aa y.fst,Aa y.snd])/\LQ (VV.tup [Aa y.fst,Aa y.snd]) (VV.tup [Aa v,Aa r])) (BB (x.Op==39) (LQ (VV.tup [Aa 0,Aa 42]) (VV.tup [Aa v,Aa r])) (∃ (y:Int × Int),VC 135 [VV.tp (Ag e),VV.agg (AT x)] (VV.tup [Aa y.fst,Aa y.snd])/\LQ (VV.tup [Aa y.fst,Aa y.snd]) (VV.tup [Aa v,Aa r]))))))))))))):=by kernel_rfl
theorem Aa0 (p k r:Int)(e:D.Env)(_:Int)(ds:List D.Dim)(who at' i:Int)(J:St->Prop):((fc C7 QC Tryz.f128 [] (.tup [Aa p,Aa k,Aa r])).loop [1,1,1,1,1,1,0,1,0] J).goal (Px e ds who at' i) =
  (BB (decide (i<(↑ds.length:Int))) (inX i ds.length/\∃ (y:Int × Int),VC 94 [VV.tp (Ag e),Aa (ds.getD i.toNat default).I] (VV.tup [Aa y.fst,Aa y.snd])/\BB (y.snd != 0) (LQ (VV.tup [Aa 0,Aa 0,Aa y.snd]) (VV.tup [Aa p,Aa k,Aa r])) (BB (bif decide (y.fst<0) then true else decide (y.fst>=(ds.getD i.toNat default).Len)) (LQ (VV.tup [Aa 0,Aa 0,Aa 47]) (VV.tup [Aa p,Aa k,Aa r])) (J (Px e ds who (IntKind.i64.wrap (at'+IntKind.i64.wrap (y.fst*(ds.getD i.toNat default).Stride))) (IntKind.i64.wrap (i+(1:Int))))))) (LQ (VV.tup [Aa who,Aa at',Aa 0]) (VV.tup [Aa p,Aa k,Aa r]))):=by kernel_rfl
theorem AbE (v r:Int)(e:D.Env)(x:D.Expr)(c:D.Chan)(l:List Int)(k:Int)(J:St->Prop):((fc C7 MQ Tryz.f131 [] (.tup [Aa v,Aa r])).loop [1,1,1,1,1,1,0,1,0] J).goal (WY e x c l k) =
  (BB (decide (k<(↑x.Args.length:Int))) (inX k x.Args.length/\inX k x.Match.length/\BB (x.Match.getD k.toNat 0 != 1) (J (WY e x c l (IntKind.i64.wrap (k+(1:Int))))) (∃ (y:Int × Int),VC 94 [VV.tp (Ag e),Aa (x.Args.getD k.toNat 0)] (VV.tup [Aa y.fst,Aa y.snd])/\inX k l.length/\BB (y.snd != 0) (LQ (VV.tup [Aa 0,Aa y.snd]) (VV.tup [Aa v,Aa r])) (J (Aq [(0,VV.tp (Ag e)),(3,VV.bp 0 0),(8,VV.bp 1 0),(9,VV.ow 2 0 l.length),(51,Ad true x.Args),(52,Aa (↑x.Args.length:Int)),(53,Aa (IntKind.i64.wrap (k+(1:Int))))] [Ob.box (AT x),Ob.box (AL c),Ob.arr true 0 l.length 1 fun(j:Nat)=>bif j.beq k.toNat then[Aa y.fst] else[Aa (l.getD j 0)]])))) (∃ (y:Int),VC 172 [VV.agg (AL c),Ad false l,Ad true x.Match,Ac (x.N==1)] (Aa y)/\∃ (y_1:Int × Int),VC 132 [Ac (decide (y>=0))] (VV.tup [Aa y_1.fst,Aa y_1.snd])/\LQ (VV.tup [Aa y_1.fst,Aa y_1.snd]) (VV.tup [Aa v,Aa r]))):=by kernel_rfl
theorem QV (b:Bool)(e:D.Env)(k:Int)(J:St->Prop):((fc C7 I6 Tryz.f133 [] (Ac b)).loop [1,0,1,0] J).goal (SG e k) =
  (BB (decide (k<(↑e.S.Procs.length:Int))) (inX k e.S.Procs.length/\inX (e.S.Procs.getD k.toNat default).Type_ e.M.Procs.length/\inX (e.S.Procs.getD k.toNat default).Loc (e.M.Procs.getD (e.S.Procs.getD k.toNat default).Type_.toNat default).Locs.length/\BB ((e.M.Procs.getD (e.S.Procs.getD k.toNat default).Type_.toNat default).Locs.getD (e.S.Procs.getD k.toNat default).Loc.toNat default).Progress (LQ (Ac true) (Ac b)) (J (SG e (IntKind.i64.wrap (k+(1:Int)))))) (LQ (Ac false) (Ac b))):=by kernel_rfl
theorem XS (r:Int)(l:List Int)(v k:Int)(J:St->Prop):((fc C7 NE Tryz.f193 [] (Aa r)).loop [1,0,1,0] J).goal (YQ l v k) =
  (BB (decide (k<(↑l.length:Int))) (inX k l.length/\BB (v==l.getD k.toNat 0) (LQ (Aa k) (Aa r)) (J (YQ l v (IntKind.i64.wrap (k+(1:Int)))))) (LQ (Aa (-1)) (Aa r))):=by kernel_rfl
theorem Acr (r:Int)(c:D.Chan)(l mt:List Int)(any:Bool)(k:Int)(J:St->Prop):((fc C7 QG Tryz.f172 [] (Aa r)).loop [1,0,1,0] J).goal (SJ c l mt any k) =
  (BB (decide (k<(↑c.Queue.length:Int))) (inX k c.Queue.length/\∃ (y:Bool),VC 192 [Ad true (c.Queue.getD k.toNat []),Ad false l,Ad true mt] (Ac y)/\BB y (LQ (Aa k) (Aa r)) (BB (!any) (LQ (Aa (-1)) (Aa r)) (J (SJ c l mt any (IntKind.i64.wrap (k+(1:Int))))))) (LQ (Aa (-1)) (Aa r))):=by kernel_rfl
theorem AbQ (b:Bool)(x l mt:List Int)(k:Int)(J:St->Prop):((fc C7 QF Tryz.f192 [] (Ac b)).loop [1,1,0,1,0] J).goal (SH x l mt k) =
  (BB (decide (k<(↑mt.length:Int))) (inX k mt.length/\((true&&(mt.getD k.toNat 0==1)==true)=true->inX k x.length)/\((true&&(mt.getD k.toNat 0==1)==true)=true->inX k l.length)/\BB (bif mt.getD k.toNat 0==1 then x.getD k.toNat 0 != l.getD k.toNat 0 else false) (LQ (Ac false) (Ac b)) (J (SH x l mt (IntKind.i64.wrap (k+(1:Int)))))) (LQ (Ac true) (Ac b))):=by kernel_rfl
theorem AbY (v r:Int)(e:D.Env)(x:Int):(fc C7 AM Tryz.f170 [] (.tup [Aa v,Aa r])).goal (St.init [] [Aa x,.tp [.tp (Ag e)]]) =
  (∃ (y:Int × Int),VC 94 [VV.tp (Ag e),Aa x] (VV.tup [Aa y.fst,Aa y.snd])/\LQ (VV.tup [Aa y.fst,Aa y.snd]) (VV.tup [Aa v,Aa r])):=by kernel_rfl
end Go.Proofs.YtmdcknlpalfhhaaGreatDoor
namespace Go.Proofs.YtmdcknlpalfhhaaGreatDoor
open Go.RowKit
def Em (b:Int)(s:Bool)(v:Int):Int :=
 if 1<=b/\b<=32 then(if s then(v+2 ^ b.toNat / 2) % 2 ^ b.toNat - 2 ^ b.toNat / 2 else v % 2 ^ b.toNat) else 0
theorem Aha (b v:Int)(s:Bool)(h:b<1∨32<b):Em b s v=0:=by
 unfold Em;rw[Ak3 (by omega)]
theorem Vm (b v:Int)(h1:1<=b)(h2:b<=32):wrap64 (v*2 ^ (64 - b).toNat) / 2 ^ (64 - b).toNat=Em b true v:=by
 have hb:b=1∨b=2∨b=3∨b=4∨b=5∨b=6∨b=7∨b=8∨b=9∨b=10∨b=11∨b=12∨b=13∨b=14∨b=15∨b=16∨b=17∨b=18∨b=19∨b=20∨b=21∨b=22∨b=23∨b=24∨b=25∨b=26∨b=27∨b=28∨b=29∨b=30∨b=31∨b=32:=by omega
 unfold wrap64 Em
 rcases hb with h | h | h | h | h | h | h | h | h | h | h | h | h | h | h | h | h | h | h | h | h | h | h | h | h | h | h | h | h | h | h | h <;>
  subst h<;>simp<;>omega
theorem VT (v:Int)(m:Nat)(hm:m<32):bits .and .i64 v (((2 ^ (m+1):Nat):Int) - 1)=v % ((2 ^ (m+1):Nat):Int):=by
 show IntKind.i64.wrap ((BitVec.ofInt 64 v &&& BitVec.ofInt 64 (((2 ^ (m+1):Nat):Int) - 1)).toNat:Int)=_
 have hp:2 ^ (m+1)<=2 ^ 32:=Aml (by decide) (by omega)
 have hpos:0<2 ^ (m+1):=Nat.two_pow_pos _
 have e1:(((2 ^ (m+1):Nat):Int) - 1)=((2 ^ (m+1) - 1:Nat):Int):=by omega
 rw[BitVec.toNat_and,e1,BitVec.ofInt_natCast,BitVec.toNat_ofNat,BitVec.toNat_ofInt]
 have e2:(2 ^ (m+1) - 1) % 2 ^ 64=2 ^ (m+1) - 1:=Nat.mod_eq_of_lt (by omega)
 rw[e2,AmV]
 have hlt:(v % ((2 ^ 64:Nat):Int)).toNat % 2 ^ (m+1)<2 ^ (m+1):=AmQ _ hpos
 rw[IntWalk.i64_in _ (by omega)]
 have hnn:0<=v % ((2 ^ 64:Nat):Int):=Am5 _ (by decide)
 have hd:((2 ^ (m+1):Nat):Int) ∣ ((2 ^ 64:Nat):Int):=by
  have:2 ^ (m+1) ∣ 2 ^ 64:=Nat.pow_dvd_pow 2 (by omega)
  exact Int.natCast_dvd_natCast.2 this
 rw[Int.natCast_emod,Int.toNat_of_nonneg hnn]
 exact Int.emod_emod_of_dvd _ hd
theorem Ae6 (b v:Int)(h1:1<=b)(h2:b<=32):bits .and .i64 v (wrap64 (wrap64 (2 ^ b.toNat) - 1))=Em b false v:=by
 obtain⟨m,rfl⟩:∃ m:Nat,b=(m:Int)+1:=⟨(b - 1).toNat,by omega⟩
 have hm:m<32:=by omega
 have e:((m:Int)+1).toNat=m+1:=by omega
 have hp:2 ^ (m+1)<=2 ^ 32:=Aml (by decide) (by omega)
 have hpos:0<2 ^ (m+1):=Nat.two_pow_pos _
 have ec:(2:Int) ^ (m+1)=((2 ^ (m+1):Nat):Int):=by simp
 unfold Em
 rw[Alj ⟨h1,h2⟩,e,ec,IntWalk.wrap64_in ((2 ^ (m+1):Nat):Int) (by omega),IntWalk.wrap64_in _ (by omega),VT v m hm]
 simp
theorem Aer (b:Int)(h1:1<=b)(h2:b<=32):(2:Int)<=2 ^ b.toNat/\(2:Int) ^ b.toNat<=4294967296:=by
 obtain⟨m,hm⟩:∃ m:Nat,b.toNat=m+1:=⟨b.toNat - 1,by omega⟩
 rw[hm]
 have hp:2 ^ (m+1)<=2 ^ 32:=Aml (by decide) (by omega)
 have hq:2 ^ 1<=2 ^ (m+1):=Aml (by decide) (by omega)
 have ec:(2:Int) ^ (m+1)=((2 ^ (m+1):Nat):Int):=by simp
 rw[ec];omega
theorem Bw (n:Int):-2147483648<=wrap32 n/\wrap32 n<=2147483647:=by unfold wrap32;omega
theorem Aaq {n:Int}(h:-2147483648<=n)(h':n<=2147483647):wrap32 n=n:=by unfold wrap32;omega
theorem Hp (n:Int):wrap64 (wrap32 n)=wrap32 n:=by have:=Bw n;exact IntWalk.wrap64_in _ (by omega)
theorem OW (n:Int):wrap32 n % 4294967296=n % 4294967296:=by unfold wrap32;omega
theorem Q3 {m n:Int}(h:m % 4294967296=n % 4294967296):wrap32 m=wrap32 n:=by unfold wrap32;omega
theorem AfS (a b:Int):wrap32 (wrap32 a*b)=wrap32 (a*b):=Q3 (by rw[Int.mul_emod,OW,← Int.mul_emod])
theorem Sm (a b:Int):wrap32 (a - wrap32 b)=wrap32 (a - b):=Q3 (by rw[Int.sub_emod,OW,← Int.sub_emod])
theorem YG (x y:Int)(h1:-2147483648<=x)(h2:x<=2147483647):-2147483648<=x.tmod y/\x.tmod y<=2147483647:=by
 by_cases h:0<=x
 ·have a:=Int.tmod_nonneg y h
  have b:x.tmod y<=x:=by
   have:=Am5
   rw[Int.tmod_eq_emod_of_nonneg h]
   by_cases hy:y=0
   ·subst hy;simp
   ·have hq:x % y=x - y*(x / y):=by have:=Int.emod_def x y;omega
    have:0<=y*(x / y):=by
     rcases Int.lt_or_gt_of_ne hy with hn | hp
     ·exact Int.mul_nonneg_of_nonpos_of_nonpos (by omega) (Int.ediv_nonpos_of_nonneg_of_nonpos h (by omega))
     ·exact Int.mul_nonneg (by omega) (Int.ediv_nonneg h (by omega))
    omega
  omega
 ·have e:x.tmod y=-((-x).tmod y):=by rw[Int.neg_tmod];omega
  have hx:0<=-x:=by omega
  have a:=Int.tmod_nonneg y hx
  have b:(-x).tmod y<=-x:=by
   rw[Int.tmod_eq_emod_of_nonneg hx]
   by_cases hy:y=0
   ·subst hy;simp
   ·have hq:-x % y=-x - y*(-x / y):=by have:=Int.emod_def (-x) y;omega
    have:0<=y*(-x / y):=by
     rcases Int.lt_or_gt_of_ne hy with hn | hp
     ·exact Int.mul_nonneg_of_nonpos_of_nonpos (by omega) (Int.ediv_nonpos_of_nonneg_of_nonpos hx (by omega))
     ·exact Int.mul_nonneg (by omega) (Int.ediv_nonneg hx (by omega))
    omega
  omega
theorem Ags (x y:Int)(h1:-2147483648<=x)(h2:x<=2147483647):wrap32 (x - wrap32 (wrap32 (x.tdiv y)*y))=x.tmod y:=by
 have hb:=YG x y h1 h2
 rw[Sm,← Sm,AfS,Sm]
 have e:x - x.tdiv y*y=x.tmod y:=by have:=Int.tmod_add_mul_tdiv x y;rw[Int.mul_comm]at this;omega
 rw[e];exact Aaq hb.1 hb.2
def Im (b:Bool):Int:=if b then 1 else 0
def H3 (a n:Int):Int:=if 0<=n then wrap32 (a*2 ^ min n.toNat 32) else a / 2 ^ min (-n).toNat 32
def Et (op a b:Int):Int :=
 if op=6 then wrap32 (wrap32 a*wrap32 b)
 else if op=7 then(if wrap32 b=0 then 0 else wrap32 ((wrap32 a).tdiv (wrap32 b)))
 else if op=8 then(if wrap32 b=0 then 0 else(wrap32 a).tmod (wrap32 b))
 else if op=9 then wrap32 (wrap32 a+wrap32 b)
 else if op=10 then wrap32 (wrap32 a - wrap32 b)
 else if op=11 then H3 (wrap32 a) (wrap32 b)
 else if op=12 then H3 (wrap32 a) (-wrap32 b)
 else if op=13 then Im (decide (wrap32 a<wrap32 b))
 else if op=14 then Im (decide (wrap32 a<=wrap32 b))
 else if op=15 then Im (decide (wrap32 b<wrap32 a))
 else if op=16 then Im (decide (wrap32 b<=wrap32 a))
 else if op=17 then Im (wrap32 a==wrap32 b)
 else if op=18 then Im (wrap32 a != wrap32 b)
 else if op=19 then bits .and .i32 (wrap32 a) (wrap32 b)
 else if op=20 then bits .xor .i32 (wrap32 a) (wrap32 b)
 else if op=21 then bits .or .i32 (wrap32 a) (wrap32 b)
 else 0
def HZ (op b:Int):Int :=
 if (op=7∨op=8)/\wrap32 b=0 then 48 else if 6<=op/\op<=21 then 0 else 42
def Nd (op a:Int):Int :=
 if op=3 then wrap32 (-wrap32 a) else if op=4 then Im (wrap32 a==0) else if op=5 then -wrap32 a - 1 else 0
def XB (op:Int):Int:=if op=3∨op=4∨op=5 then 0 else 42
theorem EQ (op:BinOp)(hop:op=.and∨op=.or∨op=.xor)(a b:Int):-2147483648<=bits op .i32 a b/\bits op .i32 a b<=2147483647:=by
 rcases hop with rfl | rfl | rfl
 all_goals
  unfold bits
  simp only[]
  rw[IntKind.wrap_i32];omega
theorem AdK (a:Int)(k:Nat):(a / 2 ^ k) / 2=a / 2 ^ (k+1):=by
 rw[Int.ediv_ediv_of_nonneg (Int.le_of_lt (Int.pow_pos (by decide))),Int.pow_succ]
theorem Aif (a:Int)(k:Nat)(h1:-2147483648<=a)(h2:a<=2147483647):-2147483648<=a / 2 ^ k/\a / 2 ^ k<=2147483647:=by
 induction k with
 | zero=>simp;omega
 | succ k ih=>rw[← AdK];omega
theorem Kw (a n:Int)(h:-2147483648<=a/\a<=2147483647):-2147483648<=H3 a n/\H3 a n<=2147483647:=by
 unfold H3
 split
 ·exact Bw _
 ·exact Aif a _ h.1 h.2
theorem Acl (x:Int)(h:-2147483648<=x/\x<=2147483647):bits .xor .i32 (-1) x=-x - 1:=by
 show IntKind.i32.wrap ((BitVec.ofInt 32 (-1) ^^^ BitVec.ofInt 32 x).toNat:Int)=_
 have e:BitVec.ofInt 32 (-1)=BitVec.allOnes 32:=by decide
 rw[e,BitVec.allOnes_xor,BitVec.toNat_not,BitVec.toNat_ofInt,IntKind.wrap_i32]
 have:(((2:Nat) ^ 32:Nat):Int)=4294967296:=by decide
 rw[this];omega
theorem Ae3 (a:Int):wrap64 (bits .xor .i32 (-1) (wrap32 a))=-wrap32 a - 1:=by
 have h:=Bw a
 rw[Acl _ h];exact IntWalk.wrap64_in _ (by omega)
def DX (b:Bool):Int × Int:=(bif b then 1 else 0,0)
abbrev Evl:=Int->Int × Int
section
variable (e : D.Env) (ev:Evl)
def DH (a:Int):Int × Int :=
 bif decide ((ev a).2≠0) then(0,(ev a).2) else bif decide ((ev a).1<1)||decide ((e.S.Chans.length:Int)<(ev a).1) then(0,49) else((ev a).1,0)
def Co (n:Int):D.Chan:=e.S.Chans.getD (n - 1).toNat default
def Ajq (op room many:Int):Int × Int :=
 if op=25 then(many,0) else if op=26 then DX (decide (room<=many)) else if op=28 then DX (decide (many<room)) else if op=27 then DX (decide (many=0)) else DX (decide (0<many))
def Sb (x:D.Expr):Int × Int :=
 bif decide ((DH e ev x.A).2≠0) then(0,(DH e ev x.A).2) else Ajq x.Op (BU e.M (Co e (DH e ev x.A).1).Shape).Room (Co e (DH e ev x.A).1).Queue.length
def Yb : Nat->(Nat->Int)->Int
 | 0,_=>0
 | n+1,f=>bif decide (Yb n f≠0) then Yb n f else f n
def Eo (a m:Int):Int × Int:=bif decide (m=1) then ev a else(0,0)
def MV (args mt:List Int):List Int:=(List.range args.length).map fun i=>(Eo ev (args.getD i 0) (mt.getD i 0)).1
def ER (args mt:List Int)(n:Nat):Int:=Yb n fun i=>(Eo ev (args.getD i 0) (mt.getD i 0)).2
def Ip (x l mt:List Int):Bool:=decide (mt.length<=x.length)&&decide (mt.length<=l.length)&&D4 mt.length fun i=>!(decide (mt.getD i 0=1)&&decide (x.getD i 0≠l.getD i 0))
def R1 (l mt:List Int)(any:Bool):Nat->List (List Int)->Int
 | _,[]=>-1
 | k,x::q=>bif Ip x l mt then(k:Int) else bif any then R1 l mt any (k+1) q else -1
def JS (c:D.Chan)(l mt:List Int)(any:Bool):Int:=R1 l mt any 0 c.Queue
def RB (x:D.Expr):Int × Int :=
 bif decide ((DH e ev x.A).2≠0) then(0,(DH e ev x.A).2)
 else bif decide ((BU e.M (Co e (DH e ev x.A).1).Shape).Fields.length≠x.Args.length) then(0,49)
 else bif decide (ER ev x.Args x.Match x.Args.length≠0) then(0,ER ev x.Args x.Match x.Args.length)
 else DX (decide (0<=JS (Co e (DH e ev x.A).1) (MV ev x.Args x.Match) x.Match (decide (x.N=1))))
def DR (n:Int):D.Process:=e.S.Procs.getD n.toNat default
def Ky (x:D.Expr):Int × Int :=
 bif decide ((ev x.A).2≠0) then(0,(ev x.A).2)
 else bif decide ((ev x.A).1<0)||(decide ((e.S.Procs.length:Int)<=(ev x.A).1)||(decide (x.Op=38)&&decide ((DR e (ev x.A).1).Type_≠x.N))) then(0,52)
 else bif decide (x.Op=37) then((DR e (ev x.A).1).Loc,0) else DX (decide ((DR e (ev x.A).1).Loc∈x.Args))
def Nj (x:D.Expr):Int × Int :=
 bif decide ((ev x.A).2≠0) then(0,(ev x.A).2)
 else bif decide (x.Op=24) then(bif decide ((ev x.A).1≠0) then ev x.B else ev x.C)
 else bif (decide (x.Op=22)&&decide ((ev x.A).1=0))||(decide (x.Op=23)&&decide ((ev x.A).1≠0)) then DX (decide ((ev x.A).1≠0))
 else bif decide ((ev x.B).2≠0) then(0,(ev x.B).2) else DX (decide ((ev x.B).1≠0))
def Ri (x:D.Expr):Int × Int :=
 bif decide ((ev x.A).2≠0) then(0,(ev x.A).2)
 else bif decide (x.Op=3)||(decide (x.Op=4)||decide (x.Op=5)) then(Nd x.Op (ev x.A).1,XB x.Op)
 else bif decide ((ev x.B).2≠0) then(0,(ev x.B).2) else(Et x.Op (ev x.A).1 (ev x.B).1,HZ x.Op (ev x.B).1)
def Dq (v:D.Var):Int × Int :=
 bif decide (v.Scope=0) then(bif decide ((e.S.Globals.length:Int)<Ew v) then(0,42) else(-1,0))
 else bif decide (v.Scope=1) then(bif decide (e.Pid<0)||decide (((DR e e.Pid).Frame.length:Int)<Ew v) then(0,42) else(e.Pid,0))
 else bif decide ((ev v.Who).2≠0) then(0,(ev v.Who).2)
 else bif decide ((ev v.Who).1<0)||(decide ((e.S.Procs.length:Int)<=(ev v.Who).1)||decide ((DR e (ev v.Who).1).Type_≠v.Type_)) then(0,52)
 else bif decide (((DR e (ev v.Who).1).Frame.length:Int)<Ew v) then(0,42) else((ev v.Who).1,0)
def F3 : Int->List D.Dim->Int × Int
 | n,[]=>(n,0)
 | n,d::l=>bif decide ((ev d.I).2≠0) then(0,(ev d.I).2) else bif decide ((ev d.I).1<0)||decide (d.Len<=(ev d.I).1) then(0,47) else F3 (n+(ev d.I).1*d.Stride) l
def BG (x:D.Expr):Int × Int × Int :=
 bif decide (x.Op≠2) then(0,0,42)
 else bif decide ((Dq e ev x.V).2≠0) then(0,0,(Dq e ev x.V).2)
 else bif decide ((F3 ev x.V.Slot x.V.Dims).2≠0) then(0,0,(F3 ev x.V.Slot x.V.Dims).2) else((Dq e ev x.V).1,(F3 ev x.V.Slot x.V.Dims).1,0)
def Y8 (x:D.Expr):Int × Int :=
 bif decide ((BG e ev x).2.2≠0) then(0,(BG e ev x).2.2)
 else bif decide ((BG e ev x).1<0) then(e.S.Globals.getD (BG e ev x).2.1.toNat 0,0) else((DR e (BG e ev x).1).Frame.getD (BG e ev x).2.1.toNat 0,0)
def Kz : Bool:=!(D4 e.S.Procs.length fun i=>!((IR e.M (e.S.Procs.getD i default).Type_).getD (e.S.Procs.getD i default).Loc.toNat default).Progress)
def ZQ (x:D.Expr):Int × Int :=
 bif decide ((ev x.A).2≠0) then(0,(ev x.A).2)
 else DX (decide (0<=(ev x.A).1)&&(decide ((ev x.A).1<e.Able.length)&&e.Able.getD (ev x.A).1.toNat false))
def Dy (x:D.Expr):Int × Int :=
 if x.Op=1 then(x.N,0) else if x.Op=2 then Y8 e ev x else if x.Op=22∨x.Op=23∨x.Op=24 then Nj ev x
 else if x.Op=25∨x.Op=26∨x.Op=27∨x.Op=28∨x.Op=29 then Sb e ev x else if x.Op=30 then RB e ev x
 else if x.Op=31 then(e.Pid,0) else if x.Op=32 then(e.S.Last,0) else if x.Op=33 then(e.S.Procs.length,0) else if x.Op=34 then DX (!Kz e)
 else if x.Op=35 then DX e.Timeout else if x.Op=36 then ZQ e ev x else if x.Op=37∨x.Op=38 then Ky e ev x else if x.Op=39 then(0,42) else Ri ev x
end
def R6 (e:D.Env):Nat->Evl
 | 0,_=>(0,0)
 | n+1,a=>Dy e (R6 e n) (Ax e.M a)
def Fp (e:D.Env):Evl:=R6 e (e.M.Exprs.length - 1)
def CG (e:D.Env)(x:Int):Int :=
 bif decide (Ci e.M e.S≠0) then Ci e.M e.S
 else bif decide (e.Pid < -1)||(decide ((e.S.Procs.length:Int)<=e.Pid)||(decide (x<0)||decide ((e.M.Exprs.length:Int)<=x))) then 42 else 0
def AY (e:D.Env)(x:Int):Int × Int:=bif decide (CG e x≠0) then(0,CG e x) else Dy e (Fp e) (Ax e.M x)
def AD (e:D.Env)(x:Int):Int × Int:=bif decide (CG e x≠0) then(0,CG e x) else DH e (R6 e e.M.Exprs.length) x
def IU (v:Int):Nat->List Int->Int
 | _,[]=>-1
 | k,y::l=>bif decide (v=y) then(k:Int) else IU v (k+1) l
theorem Ab8 {v y:Int}{k:Nat}{l:List Int}:IU v k (y::l)=bif decide (v=y) then(k:Int) else IU v (k+1) l:=rfl
theorem Zx {v:Int}:∀ {l:List Int} {k:Nat},decide (v∈l)=decide (IU v k l>=0)
 | [],k=>by simp[IU]
 | y::l,k=>by
  unfold IU
  by_cases h:v=y
  ·simp[h]
  ·have:=Zx (v:=v) (l:=l) (k:=k+1)
   simp only[h,decide_false,AkN,← this]
   simp[h]
theorem Ht {k:IntKind}{a b:Int}(h:a=b):Ending.returned (.int k a)=.returned (.int k b):=by rw[h]
theorem Afy {W w1:World}(hb:Below W.heap.size W w1):(∀ b o,b<W.heap.size->w1.cell? ⟨b,o,none⟩=W.cell? ⟨b,o,none⟩)/\(∀ b o,b<W.heap.size->w1.frozen? ⟨b,o,none⟩=W.frozen? ⟨b,o,none⟩) :=
 ⟨fun b o h=>hb.cell (p:=⟨b,o,none⟩) h,fun b o h=>hb.frozen (p:=⟨b,o,none⟩) h⟩
theorem EG (w:World)(o:Obj):Below w.heap.size w (w.alloc o):=(Below.refl _ _).alloc (AkU _) _
set_option maxHeartbeats 400000 in
theorem Ah8 (b v:Int)(w:World)(h1:1<=b)(h2:b<=32) :
  Calls Tryz.prog 37 #[.agg #[.int .i64 b,.bool true],.int .i64 v] w fun e w'=>e=.returned (.int .i64 (Em b true v))/\Below w.heap.size w w':=by
 have d1:decide (b<1)=false:=by simp;omega
 have d2:decide (32<b)=false:=by simp;omega
 go_enter Tryz.func37,Tryz.ntmps37
 go_wp2
 go_quiet (fail)
 go_wp2
 go_ret
 exact⟨Ht (Vm b v h1 h2),below_drewN (EG _ _) _⟩
set_option maxHeartbeats 400000 in
theorem Ah7 (b v:Int)(w:World)(h1:1<=b)(h2:b<=32) :
  Calls Tryz.prog 37 #[.agg #[.int .i64 b,.bool false],.int .i64 v] w fun e w'=>e=.returned (.int .i64 (Em b false v))/\Below w.heap.size w w':=by
 have d1:decide (b<1)=false:=by simp;omega
 have d2:decide (32<b)=false:=by simp;omega
 go_enter Tryz.func37,Tryz.ntmps37
 go_wp2
 go_ret
 exact⟨Ht (Ae6 b v h1 h2),EG _ _⟩
set_option maxHeartbeats 400000 in
theorem Ah6 (b v:Int)(s:Bool)(w:World)(h1:b<1∨32<b) :
  Calls Tryz.prog 37 #[.agg #[.int .i64 b,.bool s],.int .i64 v] w fun e w'=>e=.returned (.int .i64 (Em b s v))/\Below w.heap.size w w':=by
 have HF:=Lib.hid (Aha b v s h1)
 rcases h1 with h1 | h1
 ·go_enter Tryz.func37,Tryz.ntmps37
  go_wp2
  go_ret
  exact⟨Ht HF.out.symm,EG _ _⟩
 ·have d1:decide (b<1)=false:=by simp;omega
  go_enter Tryz.func37,Tryz.ntmps37
  go_wp2
  go_ret
  exact⟨Ht HF.out.symm,EG _ _⟩
theorem AfW (b v:Int)(s:Bool)(w:World) :
  Calls Tryz.prog 37 #[.agg #[.int .i64 b,.bool s],.int .i64 v] w fun e w'=>e=.returned (.int .i64 (Em b s v))/\Below w.heap.size w w':=by
 by_cases h:1<=b/\b<=32
 ·cases s
  ·exact Ah7 b v w h.1 h.2
  ·exact Ah8 b v w h.1 h.2
 ·exact Ah6 b v s w (by omega)
theorem GA {k l:IntKind}{a b c d:Int}(h:a=b)(h':c=d):Ending.returned (.tuple #[.int k a,.int l c])=.returned (.tuple #[.int k b,.int l d]):=by rw[h,h']
set_option maxHeartbeats 400000 in
theorem WA (b:Bool)(w:World) :
  Calls Tryz.prog 194 #[.bool b] w fun e w'=>e=.returned (.int .i64 (Im b))/\w=w':=by
 cases b
 all_goals
  go_enter Tryz.func194,Tryz.ntmps194
  go_wp2
  go_ret
  exact⟨rfl,rfl⟩
set_option maxHeartbeats 400000 in
theorem Ac8 (a n:Int)(w:World)(h0:-2147483648<=n)(h1:n<=2147483648) :
  Calls Tryz.prog 195 #[.int .i32 a,.int .i64 n] w fun e w'=>e=.returned (.int .i32 (H3 a n))/\w=w':=by
 by_cases hn:0<=n
 ·have HP:Hid (H3 a n=wrap32 (a*2 ^ min n.toNat 32)):=by unfold Hid H3;rw[Alj hn]
  by_cases h63:63<n
  ·go_enter Tryz.func195,Tryz.ntmps195
   go_wp2
   go_ret
   exact⟨Ht (by rw[HP.out,show min n.toNat 32=32 by omega];first | rfl | (rw[IntKind.wrap_i32]<;>rfl)),rfl⟩
  ·go_enter Tryz.func195,Tryz.ntmps195
   go_wp2
   go_ret
   exact⟨Ht (by rw[HP.out]),rfl⟩
 ·have HP:Hid (H3 a n=a / 2 ^ min (-n).toNat 32):=by unfold Hid H3;rw[Ak3 hn]
  have h0n:n<=0:=by omega
  by_cases h63:63 < -n
  ·go_enter Tryz.func195,Tryz.ntmps195
   go_wp2
   go_ret
   exact⟨Ht (by rw[HP.out,show min (-n).toNat 32=32 by omega]<;>rfl),rfl⟩
  ·go_enter Tryz.func195,Tryz.ntmps195
   go_wp2
   go_ret
   exact⟨Ht HP.out.symm,rfl⟩
set_option maxHeartbeats 400000 in
theorem Ah4 (a b:Int)(w:World) :
  Calls Tryz.prog 175 #[.int .i64 7,.int .i64 a,.int .i64 b] w fun e w'=>e=.returned (.tuple #[.int .i64 (Et 7 a b),.int .i64 (HZ 7 b)])/\w=w':=by
 have hy:=Bw b
 have hx:=Bw a
 by_cases h0:wrap32 b=0
 ·have HV:Hid (Et 7 a b=0):=by unfold Hid;simp[Et,h0]
  have HE:Hid (HZ 7 b=48):=by unfold Hid;simp[HZ,h0]
  have hb0:(wrap32 b==0)=true:=by simpa using h0
  clear h0
  go_enter Tryz.func175,Tryz.ntmps175
  go_wp2
  refine Gw 0 rfl (fun J hJ=>?_)
  go_wp2
  go_step3
  refine⟨rfl,hJ _ _ ?_⟩
  go_wp2
  rw[Exit.noGoto_ret]
  go_ret2
  exact⟨GA HV.out.symm HE.out.symm,rfl⟩
 ·have HV:Hid (Et 7 a b=wrap32 ((wrap32 a).tdiv (wrap32 b))):=by unfold Hid;simp[Et,h0]
  have HE:Hid (HZ 7 b=0):=by unfold Hid;simp[HZ,h0]
  have hb0:(wrap32 b==0)=false:=by simpa using h0
  go_enter Tryz.func175,Tryz.ntmps175
  go_wp2
  go_step3
  go_wp2
  rw[Exit.noGoto_ret]
  go_ret2
  exact⟨GA (by rw[HV.out];exact Hp _) HE.out.symm,rfl⟩
set_option maxHeartbeats 400000 in
theorem Ah3 (a b:Int)(w:World) :
  Calls Tryz.prog 175 #[.int .i64 8,.int .i64 a,.int .i64 b] w fun e w'=>e=.returned (.tuple #[.int .i64 (Et 8 a b),.int .i64 (HZ 8 b)])/\w=w':=by
 have hy:=Bw b
 have hx:=Bw a
 by_cases h0:wrap32 b=0
 ·have HV:Hid (Et 8 a b=0):=by unfold Hid;simp[Et,h0]
  have HE:Hid (HZ 8 b=48):=by unfold Hid;simp[HZ,h0]
  have hb0:(wrap32 b==0)=true:=by simpa using h0
  clear h0
  go_enter Tryz.func175,Tryz.ntmps175
  go_wp2
  refine Gw 0 rfl (fun J hJ=>?_)
  go_wp2
  go_step3
  refine⟨rfl,hJ _ _ ?_⟩
  go_wp2
  rw[Exit.noGoto_ret]
  go_ret2
  exact⟨GA HV.out.symm HE.out.symm,rfl⟩
 ·have HV:Hid (Et 8 a b=(wrap32 a).tmod (wrap32 b)):=by unfold Hid;simp[Et,h0]
  have HE:Hid (HZ 8 b=0):=by unfold Hid;simp[HZ,h0]
  have hb0:(wrap32 b==0)=false:=by simpa using h0
  go_enter Tryz.func175,Tryz.ntmps175
  go_wp2
  go_step3
  go_wp2
  rw[Exit.noGoto_ret]
  go_ret2
  exact⟨GA (by rw[HV.out];rw[Hp];exact Ags _ _ hx.1 hx.2) HE.out.symm,rfl⟩
set_option maxHeartbeats 4000000 in
theorem Ah2 (op a b:Int)(w:World)(ho:op=6∨op=9∨op=10∨op=11∨op=12∨op=19∨op=20∨op=21) :
  Calls Tryz.prog 175 #[.int .i64 op,.int .i64 a,.int .i64 b] w fun e w'=>e=.returned (.tuple #[.int .i64 (Et op a b),.int .i64 (HZ op b)])/\w=w':=by
 have hy:=Bw b
 rcases ho with rfl | rfl | rfl | rfl | rfl | rfl | rfl | rfl
 all_goals
  go_enter Tryz.func175,Tryz.ntmps175
  go_wp2
  go_step3
  go_wp2_with (first | (go_at_call 195;(with_reducible refine(Ac8 _ _ _ (by omega) (by omega)).mono ?_);rintro e w1 ⟨rfl,rfl⟩) | (go_at_call 194;(with_reducible refine(WA _ _).mono ?_);rintro e w1 ⟨rfl,rfl⟩))
  rw[Exit.noGoto_ret]
  go_ret2
  refine⟨GA ?_ (by simp[HZ]),rfl⟩
  first
   | (simp[Et,Hp];done)
   | (have h:=Kw (wrap32 a) (wrap32 b) (Bw a);simp only[Et];exact IntWalk.wrap64_in _ (by omega))
   | (have h:=Kw (wrap32 a) (-wrap32 b) (Bw a);simp only[Et];exact IntWalk.wrap64_in _ (by omega))
   | (have h:=EQ .and (by simp) (wrap32 a) (wrap32 b);simp only[Et];exact IntWalk.wrap64_in _ (by omega))
   | (have h:=EQ .xor (by simp) (wrap32 a) (wrap32 b);simp only[Et];exact IntWalk.wrap64_in _ (by omega))
   | (have h:=EQ .or (by simp) (wrap32 a) (wrap32 b);simp only[Et];exact IntWalk.wrap64_in _ (by omega))
set_option maxHeartbeats 4000000 in
theorem Ah1 (op a b:Int)(w:World)(ho:op=13∨op=14∨op=15∨op=16∨op=17∨op=18) :
  Calls Tryz.prog 175 #[.int .i64 op,.int .i64 a,.int .i64 b] w fun e w'=>e=.returned (.tuple #[.int .i64 (Et op a b),.int .i64 (HZ op b)])/\w=w':=by
 have hy:=Bw b
 rcases ho with rfl | rfl | rfl | rfl | rfl | rfl
 all_goals
  go_enter Tryz.func175,Tryz.ntmps175
  go_wp2
  refine Gw 1 rfl (fun J hJ=>?_)
  go_wp2
  go_step3
  refine⟨rfl,hJ _ _ ?_⟩
  go_wp2_with (first | (go_at_call 195;(with_reducible refine(Ac8 _ _ _ (by omega) (by omega)).mono ?_);rintro e w1 ⟨rfl,rfl⟩) | (go_at_call 194;(with_reducible refine(WA _ _).mono ?_);rintro e w1 ⟨rfl,rfl⟩))
  rw[Exit.noGoto_ret]
  go_ret2
  exact⟨GA (by simp only[Et];rfl) (by simp[HZ]),rfl⟩
set_option maxHeartbeats 400000 in
theorem AfT (op:Int)(a b:Int)(w:World)(ho:op<6∨21<op) :
  Calls Tryz.prog 175 #[.int .i64 op,.int .i64 a,.int .i64 b] w fun e w'=>e=.returned (.tuple #[.int .i64 (Et op a b),.int .i64 (HZ op b)])/\w=w':=by
 have hy:=Bw b
 have HV:Hid (Et op a b=0):=by unfold Hid Et;repeat (rw[Ak3 (by omega)])
 have HE:Hid (HZ op b=42):=by unfold Hid HZ;rw[Ak3 (by omega),Ak3 (by omega)]
 have e6:(op==6)=false:=by simp;omega
 have e7:(op==7)=false:=by simp;omega
 have e8:(op==8)=false:=by simp;omega
 have e9:(op==9)=false:=by simp;omega
 have e10:(op==10)=false:=by simp;omega
 have e11:(op==11)=false:=by simp;omega
 have e12:(op==12)=false:=by simp;omega
 have e13:(op==13)=false:=by simp;omega
 have e14:(op==14)=false:=by simp;omega
 have e15:(op==15)=false:=by simp;omega
 have e16:(op==16)=false:=by simp;omega
 have e17:(op==17)=false:=by simp;omega
 have e18:(op==18)=false:=by simp;omega
 have e19:(op==19)=false:=by simp;omega
 have e20:(op==20)=false:=by simp;omega
 have e21:(op==21)=false:=by simp;omega
 clear ho
 go_enter Tryz.func175,Tryz.ntmps175
 go_wp2
 refine Gw 1 rfl (fun J hJ=>?_)
 go_wp2
 go_step3
 refine⟨rfl,hJ _ _ ?_⟩
 go_wp2
 rw[Exit.noGoto_ret]
 go_ret2
 exact⟨GA HV.out.symm HE.out.symm,rfl⟩
theorem AkB (op a b:Int)(w:World) :
  Calls Tryz.prog 175 #[.int .i64 op,.int .i64 a,.int .i64 b] w fun e w'=>e=.returned (.tuple #[.int .i64 (Et op a b),.int .i64 (HZ op b)])/\w=w':=by
 by_cases ho:op<6∨21<op
 ·exact AfT op a b w ho
 by_cases h7:op=7
 ·subst h7;exact Ah4 a b w
 by_cases h8:op=8
 ·subst h8;exact Ah3 a b w
 by_cases hb:13<=op/\op<=18
 ·exact Ah1 op a b w (by omega)
 ·exact Ah2 op a b w (by omega)
set_option maxHeartbeats 1000000 in
theorem AkC (op a:Int)(w:World) :
  Calls Tryz.prog 174 #[.int .i64 op,.int .i64 a] w fun e w'=>e=.returned (.tuple #[.int .i64 (Nd op a),.int .i64 (XB op)])/\w=w':=by
 by_cases ho:op=3∨op=4∨op=5
 ·rcases ho with rfl | rfl | rfl
  all_goals
   have hx:=Bw a
   go_enter Tryz.func174,Tryz.ntmps174
   go_wp2_with (go_at_call 194;(with_reducible refine(WA _ _).mono ?_);rintro e w1 ⟨rfl,rfl⟩)
   go_ret2
   exact⟨GA (by simp only[Nd];first | rfl | exact Hp _ | exact(Ae3 a) | (simp;omega)) (by simp[XB]),rfl⟩
 have HV:Hid (Nd op a=0):=by unfold Hid Nd;repeat (rw[Ak3 (by omega)])
 have HE:Hid (XB op=42):=by unfold Hid XB;rw[Ak3 (by omega)]
 have e3:(op==3)=false:=by simp;omega
 have e4:(op==4)=false:=by simp;omega
 have e5:(op==5)=false:=by simp;omega
 clear ho
 go_enter Tryz.func174,Tryz.ntmps174
 go_wp2
 go_ret2
 exact⟨GA HV.out.symm HE.out.symm,rfl⟩
theorem AaK {m:D.Model}(h:CV m=(0,0)):H7 m<0:=by
 unfold CV at h
 generalize (decide (128<m.Globals.length)||!decide (m.Init.length=m.Globals.length))=c1 at h
 generalize decide (0<=Fm m.Globals m.Init)=c2 at h
 generalize (decide (32<m.Shapes.length)||decide (32<m.Chans.length))=c3 at h
 generalize decide (0<=Gy m)=c4 at h
 generalize decide (0<=I2 m)=c5 at h
 generalize (decide (m.Procs.length<1)||(decide (16<m.Procs.length)||(decide (m.Claim < -1)||(decide ((m.Procs.length:Int)<=m.Claim)||decide (4096<m.Exprs.length)))))=c6 at h
 cases c7:decide (0<=H7 m) with
 | true=>rw[c7]at h;cases c1<;>cases c2<;>cases c3<;>cases c4<;>cases c5<;>cases c6<;>simp at h
 | false=>have:=Ak6 c7;omega
structure B4 (e:D.Env):Prop where
 fits:DJ e.M e.S=true
 may:Dt e.M=true
 wf:Av e.M
 pid:-1<=e.Pid/\e.Pid<e.S.Procs.length
section
variable {e : D.Env}
theorem B4.fit (h:B4 e):Fit e.S:=Tt h.may h.fits
theorem B4.tab (h:B4 e):Ah0 e.M:=Pp (Cz h.may).1
theorem B4.expr (h:B4 e):∀ i:Nat,i<e.M.Exprs.length->EP e.M i=true:=Vp (AaK (Cz h.may).1)
theorem B4.chan (h:B4 e){c:D.Chan}(hc:c∈e.S.Chans):Dg e.M c=true:=by
 have h:=h.fits
 unfold DJ at h
 simp only[AkO]at h
 exact(Cm (d:=default) (f:=fun c=>Dg e.M c)).1 h.1.1.2 c hc
theorem B4.proc (h:B4 e){p:D.Process}(hp:p∈e.S.Procs):A2 e.M p=true:=by
 have h:=h.fits
 unfold DJ at h
 simp only[AkO]at h
 exact(Cm (d:=default) (f:=fun c=>A2 e.M c)).1 h.1.2 p hp
theorem B4.globals (h:B4 e):e.S.Globals.length=e.M.Globals.length/\BE e.M.Globals e.S.Globals=true:=by
 have h:=h.fits
 unfold DJ K6 at h
 simp only[AkO]at h
 have:=h.1.1.1.1.1.1.1.1.1
 exact⟨EK this,this⟩
theorem EB {m:D.Model}{p:D.Process}(h:A2 m p=true):(0<=p.Type_/\p.Type_<m.Procs.length)/\(0<=p.Loc/\p.Loc<(A9 m p.Type_).Locs.length)/\p.Frame.length=(A9 m p.Type_).Frame.length/\BE (A9 m p.Type_).Frame p.Frame=true/\p.Prio=(A9 m p.Type_).Prio/\p.Type_≠m.Claim:=by
 unfold A2 D0 at h
 simp only[AkO,AkS]at h
 obtain⟨⟨⟨⟨⟨h1,h2⟩,h3⟩,h4⟩,h5⟩,h6⟩:=h
 exact⟨⟨h1,h2⟩,CF.1 h4,EK h6,h6,h5,h3⟩
theorem FH {m:D.Model}{c:D.Chan}(h:Dg m c=true):(0<=c.Shape/\c.Shape<m.Shapes.length)/\(c.Queue.length:Int)<=(BU m c.Shape).Room/\∀ x∈c.Queue,BE (BU m c.Shape).Fields x=true:=by
 unfold Dg at h
 simp only[AkO,AkS]at h
 exact⟨CF.1 h.1.1,h.1.2,fun x hx=>(Cm (d:=[]) (f:=fun x=>BE (BU m c.Shape).Fields x)).1 h.2 x hx⟩
end
abbrev vII (p:Int × Int):VV:=.tup [Aa p.1,Aa p.2]
abbrev L2 (p:Int × Int × Int):VV:=.tup [Aa p.1,Aa p.2.1,Aa p.2.2]
theorem Bs {a b:Int}{q:Int × Int}(h:(a,b)=q):leO [] []/\VV.le (.tup [.sc (.int .i64 a),.sc (.int .i64 b)]) (.tup [.sc (.int .i64 q.1),.sc (.int .i64 q.2)]):=by
 subst h;exact⟨trivial,VV.le_refl _⟩
theorem MA {a b c:Int}{q:Int × Int × Int}(h:(a,b,c)=q):leO [] []/\VV.le (.tup [.sc (.int .i64 a),.sc (.int .i64 b),.sc (.int .i64 c)]) (.tup [.sc (.int .i64 q.1),.sc (.int .i64 q.2.1),.sc (.int .i64 q.2.2)]):=by
 subst h;exact⟨trivial,VV.le_refl _⟩
theorem ct {α:Type}{c:Bool}{a b x:α}(h:c=true)(k:x=a):x=bif c then a else b:=by rw[h];exact k
theorem cf {α:Type}{c:Bool}{a b x:α}(h:c=false)(k:x=b):x=bif c then a else b:=by rw[h];exact k
theorem it {α:Type}{c:Prop}[Decidable c]{a b x:α}(h:c)(k:x=a):x=if c then a else b:=by rw[Alj h];exact k
theorem ie {α:Type}{c:Prop}[Decidable c]{a b x:α}(h:¬ c)(k:x=b):x=if c then a else b:=by rw[Ak3 h];exact k
abbrev EvS (e:D.Env)(a:Int)(p:Int × Int):Prop:=Aj Tryz.prog 94 [] [.tp (Ag e),Aa a] [] (vII p)
theorem C0 {b:Bool}:Aj Tryz.prog 132 [] [Ac b] [] (vII (DX b)) :=
 Ah Al Am Tryz.func132 (by kernel_rfl) rfl (AaG _ _ b) ⟨fun h=>Bs (by rw[h]<;>rfl),fun h=>Bs (by rw[h];rfl)⟩
theorem AK (a b:Int):(a != b)=decide (a≠b):=by rw[Alc];simp
theorem Lc {e:D.Env}{ev:Evl}{a:Int}(h:EvS e a (ev a)):Aj Tryz.prog 171 [] [.tp (Ag e),Aa a] [] (vII (DH e ev a)):=by
 refine Ah Al Am Tryz.func171 (by kernel_rfl) rfl (Aaj _ _ e a) ⟨ev a,h,fun h=>Bs (ct (by simpa using h) rfl),fun h=>⟨fun h2=>Bs (cf (by simpa using h) (ct ?_ rfl)),fun h2=>Bs (cf (by simpa using h) (cf ?_ rfl))⟩⟩
 ·rw[A7]at h2;exact h2
 ·rw[A7]at h2;exact h2
theorem TB {e:D.Env}{ev:Evl}{a:Int}(hE:B4 e)(h:¬ (DH e ev a).2≠0):1<=(DH e ev a).1/\(DH e ev a).1<=e.S.Chans.length/\e.S.Chans.length<=32:=by
 have hc:=hE.fit.c
 unfold DH at h ⊢
 cases h1:decide ((ev a).2≠0) with
 | true=>rw[h1]at h;have:=AkW h1;exact absurd h (by simpa using this)
 | false =>
  rw[h1]at h
  simp only[AkN]at h ⊢
  cases h2:(decide ((ev a).1<1)||decide ((e.S.Chans.length:Int)<(ev a).1)) with
  | true=>rw[h2]at h;simp at h
  | false =>
   simp only[Ald,Alq]at h2
   simp only[AkN]
   omega
theorem XR {l:List Int}{v:Int}(hl:Len l.length):Aj Tryz.prog 193 [] [Ad true l,Aa v] [] (Aa (IU v 0 l)):=by
 unfold Len at hl
 refine Ah Al Am Tryz.func193 (by kernel_rfl) rfl (Ab7 _ l v) ?_
 refine AS Al Am l.length (fun k=>YQ l v k) (fun k=>IU v 0 l=IU v k (l.drop k)) (by kernel_rfl) (by kernel_rfl) rfl ?_
 intro k hk hI J next
 refine Ali (XS _ l v k J) ⟨fun hlt=>?_,fun hge=>C4 ?_⟩
 ·have hlt':k<l.length:=by have:=A3 hlt;omega
  have hto:(k:Int).toNat=k:=by omega
  rw[hto]
  rw[BN (d:=0) hlt']at hI
  rw[Ab8]at hI
  refine⟨by omega,fun hy=>C4 ?_,fun hy=>next _ hlt' ?_ (Up.of ?_)⟩
  ·rw[ieq]at hy;rw[hI,hy,AkQ]
  ·rw[ieq]at hy;rw[hI,hy,AkN]
  ·rw[An (by omega)]<;>rfl
 ·have hge':l.length<=k:=by have:=A5 hge;omega
  rw[hI,Alz hge']<;>rfl
theorem QW {l:List Int}{v:Int}(hl:Len l.length):Aj Tryz.prog 173 [] [Ad true l,Aa v] [] (Ac (decide (v∈l))) :=
 Ah Al Am Tryz.func173 (by kernel_rfl) rfl (Tw _ l v) ⟨_,XR hl,AG (by rw[Zx (k:=0)])⟩
theorem AcS {e:D.Env}{ev:Evl}{x:D.Expr}(hE:B4 e)(h:EvS e x.A (ev x.A)):Aj Tryz.prog 130 [] [.tp (Ag e),.agg (AT x)] [] (vII (Sb e ev x)):=by
 refine Ah Al Am Tryz.func130 (by kernel_rfl) rfl (AfB _ _ e x) ⟨DH e ev x.A,Lc h,fun h=>Bs (ct (by simpa using h) rfl),fun h=>?_⟩
 have h0:decide ((DH e ev x.A).2≠0)=false:=by simpa using h
 have hq:Sb e ev x=Ajq x.Op (BU e.M (Co e (DH e ev x.A).1).Shape).Room (Co e (DH e ev x.A).1).Queue.length:=by unfold Sb;rw[h0]<;>rfl
 rw[hq]
 have hn:=TB hE (Ak6 h0)
 generalize (DH e ev x.A).1=n at hn
 rw[BF (by omega) (by omega)]
 have hc:=hE.chan (Aw (d:=default) (show(n - 1).toNat<e.S.Chans.length by omega))
 have hs:=(FH hc).1
 refine⟨by omega,hs,fun h1=>Bs (it (by simpa using h1) rfl),fun h1=>⟨fun h2=>⟨_,C0,Bs (ie (by simpa using h1) (it (by simpa using h2) rfl))⟩,fun h2=>⟨fun h3=>⟨_,C0,Bs (ie (by simpa using h1) (ie (by simpa using h2) (it (by simpa using h3) rfl)))⟩,fun h3=>⟨fun h4=>⟨_,C0,Bs (ie (by simpa using h1) (ie (by simpa using h2) (ie (by simpa using h3) (it (by simpa using h4) ?_))))⟩,fun h4=>⟨_,C0,Bs (ie (by simpa using h1) (ie (by simpa using h2) (ie (by simpa using h3) (ie (by simpa using h4) ?_))))⟩⟩⟩⟩⟩
 ·rw[ieq]<;>rfl
 ·rfl
theorem UI {e:D.Env}{ev:Evl}{x:D.Expr}(h:EvS e x.A (ev x.A))(hl:Len x.Args.length):Aj Tryz.prog 134 [] [.tp (Ag e),.agg (AT x)] [] (vII (Ky e ev x)):=by
 refine Ah Al Am Tryz.func134 (by kernel_rfl) rfl (Xh _ _ e x) ⟨ev x.A,h,fun h=>Bs (ct (by simpa using h) rfl),fun h=>?_⟩
 have h0:decide ((ev x.A).2≠0)=false:=by simpa using h
 have hq:Ky e ev x=bif decide ((ev x.A).1<0)||(decide ((e.S.Procs.length:Int)<=(ev x.A).1)||(decide (x.Op=38)&&decide ((DR e (ev x.A).1).Type_≠x.N))) then(0,52)
   else bif decide (x.Op=37) then((DR e (ev x.A).1).Loc,0) else DX (decide ((DR e (ev x.A).1).Loc∈x.Args)):=by unfold Ky;rw[h0]<;>rfl
 rw[hq]
 generalize (ev x.A).1=n
 refine⟨fun h1=>?_,fun h1=>?_,fun h1=>⟨fun h2=>⟨?_,Bs (cf ?_ (ct (by simpa using h2) rfl))⟩,fun h2=>⟨?_,_,QW hl,_,C0,Bs (cf ?_ (cf (by simpa using h2) rfl))⟩⟩⟩
 ·simp at h1;omega
 ·simp only[A7,A8,ieq,AK,Amk,AlX]at h1;exact Bs (ct h1 rfl)
 ·simp at h1;omega
 ·simp only[A7,A8,ieq,AK,Amk,AlX]at h1;exact h1
 ·simp at h1;omega
 ·simp only[A7,A8,ieq,AK,Amk,AlX]at h1;exact h1
theorem Lt {e:D.Env}{a:Int}{p:Int × Int}(h:EvS e a p):Aj Tryz.prog 170 [] [Aa a,.tp [.tp (Ag e)]] [] (vII p) :=
 Ah Al Am Tryz.func170 (by kernel_rfl) rfl (AbY _ _ e a) ⟨p,h,Bs rfl⟩
theorem P5 {e:D.Env}{ev:Evl}{x:D.Expr}(h:EvS e x.A (ev x.A))(hB:EvS e x.B (ev x.B))(hC:x.Op=24->EvS e x.C (ev x.C)):Aj Tryz.prog 129 [] [.tp (Ag e),.agg (AT x)] [] (vII (Nj ev x)):=by
 refine Ah Al Am Tryz.func129 (by kernel_rfl) rfl (Ab0 _ _ e x) ⟨ev x.A,h,fun h=>Bs (ct (by simpa using h) rfl),fun h=>?_⟩
 have h0:decide ((ev x.A).2≠0)=false:=by simpa using h
 have hq:Nj ev x=bif decide (x.Op=24) then(bif decide ((ev x.A).1≠0) then ev x.B else ev x.C)
   else bif (decide (x.Op=22)&&decide ((ev x.A).1=0))||(decide (x.Op=23)&&decide ((ev x.A).1≠0)) then DX (decide ((ev x.A).1≠0))
   else bif decide ((ev x.B).2≠0) then(0,(ev x.B).2) else DX (decide ((ev x.B).1≠0)):=by unfold Nj;rw[h0]<;>rfl
 rw[hq]
 generalize (ev x.A).1=n
 refine⟨fun h1=>⟨_,Lt hB,?_⟩,fun h1=>⟨fun h2=>⟨_,Lt (hC (by simpa using h2)),?_⟩,fun h2=>⟨fun h3=>⟨_,C0,?_⟩,fun h3=>⟨_,Lt hB,fun h4=>?_,fun h4=>⟨_,C0,?_⟩⟩⟩⟩⟩
 ·simp only[A8,ieq,AK,AkO]at h1
  exact Bs (ct h1.1 (ct h1.2 rfl))
 ·have h2':decide (x.Op=24)=true:=by simpa using h2
  simp only[A8,ieq,AK,h2',AlI]at h1
  exact Bs (ct h2' (cf h1 rfl))
 ·have h2':decide (x.Op=24)=false:=by simpa using h2
  simp only[A8,A7,ieq,AK]at h3
  rw[AK]
  exact Bs (cf h2' (ct h3 rfl))
 ·have h2':decide (x.Op=24)=false:=by simpa using h2
  simp only[A8,A7,ieq,AK]at h3
  exact Bs (cf h2' (cf h3 (ct (by simpa using h4) rfl)))
 ·have h2':decide (x.Op=24)=false:=by simpa using h2
  simp only[A8,A7,ieq,AK]at h3
  rw[AK]
  exact Bs (cf h2' (cf h3 (cf (by simpa using h4) rfl)))
theorem AbM {op a:Int}:Aj Tryz.prog 174 [] [Aa op,Aa a] [] (vII (Nd op a,XB op)):=by
 refine Aj.hand ⟨_,Tryz.func174,rfl,by kernel_rfl⟩ fun w E vs hA hL _ _ hs=>?_
 obtain⟨u1,us1,rfl,v1,hs⟩:=hs.cons_inv
 obtain⟨u2,us2,rfl,v2,hs⟩:=hs.cons_inv
 obtain rfl:=hs.nil_inv
 rw[v1.sc_inv,v2.sc_inv]
 refine(AkC op a w).mono ?_
 rintro e w' ⟨rfl,rfl⟩
 exact⟨_,rfl,Su .sc .sc,Below.refl _ _⟩
theorem AaF {op a b:Int}:Aj Tryz.prog 175 [] [Aa op,Aa a,Aa b] [] (vII (Et op a b,HZ op b)):=by
 refine Aj.hand ⟨_,Tryz.func175,rfl,by kernel_rfl⟩ fun w E vs hA hL _ _ hs=>?_
 obtain⟨u1,us1,rfl,v1,hs⟩:=hs.cons_inv
 obtain⟨u2,us2,rfl,v2,hs⟩:=hs.cons_inv
 obtain⟨u3,us3,rfl,v3,hs⟩:=hs.cons_inv
 obtain rfl:=hs.nil_inv
 rw[v1.sc_inv,v2.sc_inv,v3.sc_inv]
 refine(AkB op a b w).mono ?_
 rintro e w' ⟨rfl,rfl⟩
 exact⟨_,rfl,Su .sc .sc,Below.refl _ _⟩
theorem Rh {e:D.Env}{ev:Evl}{x:D.Expr}(h:EvS e x.A (ev x.A))(hB:¬ (x.Op=3∨x.Op=4∨x.Op=5)->EvS e x.B (ev x.B)):Aj Tryz.prog 135 [] [.tp (Ag e),.agg (AT x)] [] (vII (Ri ev x)):=by
 refine Ah Al Am Tryz.func135 (by kernel_rfl) rfl (Adv _ _ e x) ⟨ev x.A,h,fun h=>Bs (ct (by simpa using h) rfl),fun h=>?_⟩
 have h0:decide ((ev x.A).2≠0)=false:=by simpa using h
 have hq:Ri ev x=bif decide (x.Op=3)||(decide (x.Op=4)||decide (x.Op=5)) then(Nd x.Op (ev x.A).1,XB x.Op)
   else bif decide ((ev x.B).2≠0) then(0,(ev x.B).2) else(Et x.Op (ev x.A).1 (ev x.B).1,HZ x.Op (ev x.B).1):=by unfold Ri;rw[h0]<;>rfl
 rw[hq]
 generalize (ev x.A).1=n
 refine⟨fun h1=>⟨_,AbM,Bs (ct ?_ rfl)⟩,fun h1=>⟨ev x.B,hB ?_,fun h2=>Bs (cf ?_ (ct (by simpa using h2) rfl)),fun h2=>⟨_,AaF,Bs (cf ?_ (cf (by simpa using h2) rfl))⟩⟩⟩
 ·simpa only[A7,ieq,AlX] using h1
 ·simp at h1;omega
 ·simpa only[A7,ieq,AlX] using h1
 ·simpa only[A7,ieq,AlX] using h1
theorem AbP {x l mt:List Int}(hm:Len mt.length):Aj Tryz.prog 192 [] [Ad true x,Ad false l,Ad true mt] [] (Ac (Ip x l mt)):=by
 unfold Len at hm
 refine Ah Al Am Tryz.func192 (by kernel_rfl) rfl (AeC _ x l mt) ⟨fun h=>AG ?_,fun h=>?_⟩
 ·symm;unfold Ip
  rw[A7]at h
  rw[AlM];intro hq
  simp only[AkO,AkS]at hq
  simp at h;omega
 ·have hl:mt.length<=x.length/\mt.length<=l.length:=by simp at h;omega
  have e0:Ip x l mt=D4 mt.length fun i=>!(decide (mt.getD i 0=1)&&decide (x.getD i 0≠l.getD i 0)):=by
   unfold Ip
   rw[Aly hl.1,Aly hl.2]<;>rfl
  rw[e0]
  refine AS Al Am mt.length (fun k=>SH x l mt k) (fun k=>∀ i,i<k->(!(decide (mt.getD i 0=1)&&decide (x.getD i 0≠l.getD i 0)))=true) (by kernel_rfl) (by kernel_rfl) (fun i hi=>by omega) ?_
  intro k hk hI J next
  refine Ali (AbQ _ x l mt k J) ⟨fun hlt=>?_,fun hge=>AG ?_⟩
  ·have hlt':k<mt.length:=by have:=A3 hlt;omega
   have hto:(k:Int).toNat=k:=by omega
   rw[hto]
   refine⟨by omega,fun _=>by omega,fun _=>by omega,fun hy=>AG ?_,fun hy=>next _ hlt' (FO hI ?_) (Up.of ?_)⟩
   ·simp only[A8,ieq,AK]at hy
    exact(Dh (f:=fun i=>!(decide (mt.getD i 0=1)&&decide (x.getD i 0≠l.getD i 0))) hlt' (by rw[hy]<;>rfl)).symm
   ·simp only[A8,ieq,AK]at hy
    rw[hy]<;>rfl
   ·rw[An (by omega)]<;>rfl
  ·have hge':mt.length<=k:=by have:=A5 hge;omega
   exact(Bx.2 fun i hi=>hI i (by omega)).symm
theorem X4 {l mt:List Int}{any:Bool}{k:Nat}{x:List Int}{q:List (List Int)}:R1 l mt any k (x::q)=bif Ip x l mt then(k:Int) else bif any then R1 l mt any (k+1) q else -1:=rfl
theorem RZ {c:D.Chan}{l mt:List Int}{any:Bool}(hc:Len c.Queue.length)(hm:Len mt.length):Aj Tryz.prog 172 [] [.agg (AL c),Ad false l,Ad true mt,Ac any] [] (Aa (JS c l mt any)):=by
 unfold Len at hc
 refine Ah Al Am Tryz.func172 (by kernel_rfl) rfl (Ae9 _ c l mt any) ?_
 unfold JS
 refine AS Al Am c.Queue.length (fun k=>SJ c l mt any k) (fun k=>R1 l mt any 0 c.Queue=R1 l mt any k (c.Queue.drop k)) (by kernel_rfl) (by kernel_rfl) rfl ?_
 intro k hk hI J next
 refine Ali (Acr _ c l mt any k J) ⟨fun hlt=>?_,fun hge=>C4 ?_⟩
 ·have hlt':k<c.Queue.length:=by have:=A3 hlt;omega
  have hto:(k:Int).toNat=k:=by omega
  rw[hto]
  rw[BN (d:=[]) hlt',X4]at hI
  refine⟨by omega,_,AbP hm,fun hy=>C4 ?_,fun hy=>⟨fun ha=>C4 ?_,fun ha=>next _ hlt' ?_ (Up.of ?_)⟩⟩
  ·rw[hI,hy,AkQ]
  ·rw[hI,hy,AkN,show any=false by simpa using ha,AkN]
  ·rw[hI,hy,AkN,show any=true by simpa using ha,AkQ]
  ·rw[An (by omega)]<;>rfl
 ·have hge':c.Queue.length<=k:=by have:=A5 hge;omega
  rw[hI,Alz hge']<;>rfl
theorem KM {f:Nat->Int}:∀ {n:Nat},(∀ i,i<n->f i=0)->Yb n f=0
 | 0,_=>rfl
 | n+1,h=>by
  unfold Yb
  rw[KM fun i hi=>h i (by omega),h n (by omega)]<;>rfl
theorem Qi {f:Nat->Int}{k:Nat}(h:∀ i,i<k->f i=0)(hf:f k≠0):∀ {n:Nat},k<n->Yb n f=f k
 | 0,hk=>by omega
 | n+1,hk=>by
  unfold Yb
  by_cases hkn:k=n
  ·subst hkn;rw[KM h]<;>rfl
  ·rw[Qi h hf (n:=n) (by omega),Aly hf,AkQ]
def B5 (ev:Evl)(args mt:List Int)(k:Nat):List Int:=(List.range args.length).map fun i=>if i<k then(Eo ev (args.getD i 0) (mt.getD i 0)).1 else 0
theorem Cg {ev:Evl}{args mt:List Int}{k:Nat}:(B5 ev args mt k).length=args.length:=by simp[B5]
theorem Fk {ev:Evl}{args mt:List Int}{k i:Nat}(hi:i<args.length):(B5 ev args mt k).getD i 0=if i<k then(Eo ev (args.getD i 0) (mt.getD i 0)).1 else 0:=by
 simp[B5,List.getD,hi]
theorem O5 {ev:Evl}{args mt:List Int}:B5 ev args mt args.length=MV ev args mt:=by
 unfold B5 MV
 apply Al3
 intro i hi
 rw[Alj (AlD.1 hi)]
theorem AbD {e:D.Env}{ev:Evl}{x:D.Expr}(hE:B4 e)(h:EvS e x.A (ev x.A))(ha:∀ a∈x.Args,EvS e a (ev a))(hl:x.Args.length<=8)(hm:x.Match.length=x.Args.length):Aj Tryz.prog 131 [] [.tp (Ag e),.agg (AT x)] [] (vII (RB e ev x)):=by
 refine Ah Al Am Tryz.func131 (by kernel_rfl) rfl (Aes _ _ e x) ⟨DH e ev x.A,Lc h,fun h=>Bs (ct (by simpa using h) rfl),fun h=>?_⟩
 have h0:decide ((DH e ev x.A).2≠0)=false:=by simpa using h
 have hq:RB e ev x=bif decide ((BU e.M (Co e (DH e ev x.A).1).Shape).Fields.length≠x.Args.length) then(0,49)
   else bif decide (ER ev x.Args x.Match x.Args.length≠0) then(0,ER ev x.Args x.Match x.Args.length)
   else DX (decide (0<=JS (Co e (DH e ev x.A).1) (MV ev x.Args x.Match) x.Match (decide (x.N=1)))):=by unfold RB;rw[h0]<;>rfl
 rw[hq]
 have hn:=TB hE (Ak6 h0)
 generalize (DH e ev x.A).1=n at hn
 rw[BF (by omega) (by omega)]
 have hcm:=Aw (d:=default) (show(n - 1).toNat<e.S.Chans.length by omega)
 have hc:=hE.chan hcm
 have hs:=(FH hc).1
 have hql:=(hE.fit.q _ hcm).1
 refine⟨by omega,hs,fun h1=>Bs (ct ?_ rfl),fun h1=>⟨by omega,?_⟩⟩
 ·rw[AK]at h1
  have:=AkW h1
  rw[AkS]
  intro hh
  apply this
  have hh':(e.M.Shapes.getD (e.S.Chans.getD (n - 1).toNat default).Shape.toNat default).Fields.length=x.Args.length:=hh
  rw[hh']
 have h1':decide ((BU e.M (Co e n).Shape).Fields.length≠x.Args.length)=false:=by
  rw[AK]at h1
  have:=Ak6 h1
  rw[Alq]
  intro hh
  apply this
  intro h2
  apply hh
  exact Int.ofNat.inj h2
 rw[h1',AkN]
 have hcdef:e.S.Chans.getD (n - 1).toNat default=Co e n:=rfl
 clear hq h1 hs hc
 generalize Co e n=c at hcdef
 have hqc:c.Queue.length<=16:=by rw[← hcdef];exact hql
 refine Br Al Am (fun gg st=>∃ k:Nat,k<=x.Args.length/\gg=x.Args.length - k/\(∀ i,i<k->(Eo ev (x.Args.getD i 0) (x.Match.getD i 0)).2=0)/\st=WY e x c (B5 ev x.Args x.Match k) k) (by kernel_rfl) (by kernel_rfl)
  ⟨x.Args.length,Up.mk (l':=[(0,.tp (Ag e)),(3,.bp 0 0),(8,.bp 1 0),(9,.ow 2 0 (B5 ev x.Args x.Match 0).length),(51,Ad true x.Args),(52,Aa x.Args.length),(53,Aa ((0:Nat):Int))])
   (hs':=[.box (AT x),.box (AL c),.arr true 0 (B5 ev x.Args x.Match 0).length 1 (AE (B5 ev x.Args x.Match 0))]) ?_ ?_ ⟨0,AkV _,rfl,fun i hi=>by omega,rfl⟩⟩ ?_
 ·rw[Cg];exact AV _
 ·rw[Cg]
  refine⟨Ob.le_refl _,by rw[← hcdef];exact Ob.le_refl _,AlB fun i hi=>AQ ?_,trivial⟩
  have hz:AE (B5 ev x.Args x.Match 0) i=[Aa 0]:=by
   unfold AE
   rw[Fk (by omega),Ak3 (AlZ _)]
  refine Eq.trans ?_ hz.symm
  rfl
 ·rintro gg st ⟨k,hk,rfl,hI,rfl⟩
  refine Ali (AbE _ _ e x c _ k _) ⟨fun hlt=>?_,fun hge=>?_⟩
  ·have hlt':k<x.Args.length:=by have:=A3 hlt;omega
   have hto:(k:Int).toNat=k:=by omega
   rw[hto]
   refine⟨by omega,by omega,fun hy=>?_,fun hy=>⟨ev (x.Args.getD k 0),ha _ (Aw hlt'),by rw[Cg];omega,fun hz=>Bs ?_,fun hz=>?_⟩⟩
   ·rw[AK]at hy
    have h1:=AkW hy
    have hv:Eo ev (x.Args.getD k 0) (x.Match.getD k 0)=(0,0):=by unfold Eo;rw[Alm h1]<;>rfl
    have e1:B5 ev x.Args x.Match k=B5 ev x.Args x.Match (k+1):=by
     unfold B5
     apply Al3
     intro i _
     by_cases hik:i=k
     ·subst hik;rw[Ak3 (Am1 _),Alj (AlP _),hv]
     ·by_cases hlt2:i<k
      ·rw[Alj hlt2,Alj (by omega)]
      ·rw[Ak3 hlt2,Ak3 (by omega)]
    rw[e1,An (by omega)]
    exact⟨x.Args.length - (k+1),by omega,Up.of ⟨k+1,by omega,rfl,FO hI (by rw[hv]),rfl⟩⟩
   ·have hm1:decide (x.Match.getD k 0=1)=true:=by rw[AK]at hy;simpa using hy
    have hv:Eo ev (x.Args.getD k 0) (x.Match.getD k 0)=ev (x.Args.getD k 0):=by unfold Eo;rw[hm1]<;>rfl
    have hnz:(Eo ev (x.Args.getD k 0) (x.Match.getD k 0)).2≠0:=by rw[hv];simpa using hz
    have he:ER ev x.Args x.Match x.Args.length=(ev (x.Args.getD k 0)).2:=by
     unfold ER
     rw[Qi (f:=fun i=>(Eo ev (x.Args.getD i 0) (x.Match.getD i 0)).2) hI hnz hlt',hv]
    rw[he]
    exact ct (by simpa using hz) rfl
   ·have hm1:decide (x.Match.getD k 0=1)=true:=by rw[AK]at hy;simpa using hy
    have hv:Eo ev (x.Args.getD k 0) (x.Match.getD k 0)=ev (x.Args.getD k 0):=by unfold Eo;rw[hm1]<;>rfl
    have h2:(ev (x.Args.getD k 0)).2=0:=by simpa using hz
    rw[An (by omega)]
    refine⟨x.Args.length - (k+1),by omega,Up.mk (l':=[(0,.tp (Ag e)),(3,.bp 0 0),(8,.bp 1 0),(9,.ow 2 0 (B5 ev x.Args x.Match (k+1)).length),(51,Ad true x.Args),(52,Aa x.Args.length),(53,Aa ((k+1:Nat):Int))])
     (hs':=[.box (AT x),.box (AL c),.arr true 0 (B5 ev x.Args x.Match (k+1)).length 1 (AE (B5 ev x.Args x.Match (k+1)))]) ?_ ?_ ⟨k+1,by omega,rfl,FO hI (by rw[hv];exact h2),rfl⟩⟩
    ·rw[Cg,Cg];exact AV _
    ·rw[Cg,Cg]
     refine⟨Ob.le_refl _,Ob.le_refl _,AlB fun i hi=>AQ ?_,trivial⟩
     show(bif i.beq k then[Aa (ev (x.Args.getD k 0)).1] else[Aa ((B5 ev x.Args x.Match k).getD i 0)])=[Aa ((B5 ev x.Args x.Match (k+1)).getD i 0)]
     rw[Fk hi,Fk hi]
     cases hq:i.beq k with
     | true =>
      have:=AkT hq;subst this
      rw[AkQ,Alj (AlP _),hv]
     | false =>
      have:i≠k:=Nat.ne_of_beq_eq_false hq
      rw[AkN]
      by_cases hlt2:i<k
      ·rw[Alj hlt2,Alj (by omega)]
      ·rw[Ak3 hlt2,Ak3 (by omega)]
  ·obtain rfl:k=x.Args.length:=by have:=A5 hge;omega
   have he:ER ev x.Args x.Match x.Args.length=0:=KM hI
   rw[he,O5]
   refine⟨_,RZ (by unfold Len;omega) (by unfold Len;omega),_,C0,Bs (cf rfl ?_)⟩
   rw[ieq]
theorem Ve {e:D.Env}{ev:Evl}{v:D.Var}(hE:B4 e)(hv:Ld v)(hw:¬ (v.Scope=0∨v.Scope=1)->EvS e v.Who (ev v.Who)):Aj Tryz.prog 169 [] [.tp (Ag e),.agg (Ct v)] [] (vII (Dq e ev v)):=by
 have hp:=hE.pid
 refine Ah Al Am Tryz.func169 (by kernel_rfl) rfl (XT _ _ e v) ⟨fun h=>⟨_,GW hv,fun h1=>Bs ?_,fun h1=>Bs ?_⟩,fun h=>⟨fun h1=>⟨_,fun _=>GW hv,fun h2=>?_,fun h2=>Bs ?_,fun h2=>Bs ?_⟩,fun h1=>⟨_,hw ?_,fun h2=>Bs ?_,fun h2=>⟨fun h3=>?_,fun h3=>Bs ?_,fun h3=>⟨_,GW hv,?_,fun h4=>Bs ?_,fun h4=>Bs ?_⟩⟩⟩⟩⟩
 ·exact ct (by simpa using h) (ct h1 rfl)
 ·exact ct (by simpa using h) (cf h1 rfl)
 ·simp at h2;omega
 ·exact cf (by simpa using h) (ct (by simpa using h1) (ct (by rw[A7]at h2;exact h2) rfl))
 ·exact cf (by simpa using h) (ct (by simpa using h1) (cf (by rw[A7]at h2;exact h2) rfl))
 ·simp at h h1;omega
 ·exact cf (by simpa using h) (cf (by simpa using h1) (ct (by simpa using h2) rfl))
 ·simp at h3;omega
 ·refine cf (by simpa using h) (cf (by simpa using h1) (cf (by simpa using h2) (ct ?_ rfl)))
  simp only[A7,AK,Amk,AlX]at h3;exact h3
 ·simp at h3;omega
 ·refine cf (by simpa using h) (cf (by simpa using h1) (cf (by simpa using h2) (cf ?_ (ct h4 rfl))))
  simp only[A7,AK,Amk,AlX]at h3;exact h3
 ·refine cf (by simpa using h) (cf (by simpa using h1) (cf (by simpa using h2) (cf ?_ (cf h4 rfl))))
  simp only[A7,AK,Amk,AlX]at h3;exact h3
theorem Qk {ev:Evl}{n:Int}{d:D.Dim}{l:List D.Dim}:F3 ev n (d::l)=bif decide ((ev d.I).2≠0) then(0,(ev d.I).2) else bif decide ((ev d.I).1<0)||decide (d.Len<=(ev d.I).1) then(0,47) else F3 ev (n+(ev d.I).1*d.Stride) l:=rfl
structure AfL (d:D.Dim):Prop where
 l1:1<=d.Len
 l2:d.Len<=128
 s1:0<=d.Stride
 s2:d.Stride<=128
theorem AeB {i s n:Int}(h0:0<=i)(h1:i<n)(h2:n<=128)(s0:0<=s)(s1:s<=128):0<=i*s/\i*s<=(n - 1)*s/\(n - 1)*s<=16384:=by
 have a:=Int.mul_nonneg h0 s0
 have b:=Int.mul_le_mul_of_nonneg_right (show i<=n - 1 by omega) s0
 have c:=Int.mul_le_mul (show n - 1<=128 by omega) s1 s0 (by omega)
 omega
theorem AaZ {e:D.Env}{ev:Evl}{x:Int}(hE:B4 e)(hx:0<=x/\x<e.M.Exprs.length)(hv:Ld (Ax e.M x).V)(hw:(Ax e.M x).Op=2->¬ ((Ax e.M x).V.Scope=0∨(Ax e.M x).V.Scope=1)->EvS e (Ax e.M x).V.Who (ev (Ax e.M x).V.Who))
  (hs:(Ax e.M x).Op=2->0<=(Ax e.M x).V.Slot/\(Ax e.M x).V.Slot<=128/\(Ax e.M x).V.Dims.length<=4) (hd:(Ax e.M x).Op=2->∀ d∈(Ax e.M x).V.Dims,AfL d/\EvS e d.I (ev d.I)):Aj Tryz.prog 128 [] [.tp (Ag e),Aa x] [] (L2 (BG e ev (Ax e.M x))):=by
 refine Ah Al Am Tryz.func128 (by kernel_rfl) rfl (AdI _ _ _ e x) ⟨hx,hx,fun h=>MA (ct (by simpa[Ax] using h) rfl),fun h=>?_⟩
 have h0:(Ax e.M x).Op=2:=by simpa[Ax] using h
 change ∃ y:Int × Int,Aj Tryz.prog 169 [] [.tp (Ag e),.agg (Ct (Ax e.M x).V)] [] (vII y)/\_
 replace hw:=hw h0
 replace hs:=hs h0
 replace hd:=hd h0
 have hq:BG e ev (Ax e.M x)=bif decide ((Dq e ev (Ax e.M x).V).2≠0) then(0,0,(Dq e ev (Ax e.M x).V).2)
   else bif decide ((F3 ev (Ax e.M x).V.Slot (Ax e.M x).V.Dims).2≠0) then(0,0,(F3 ev (Ax e.M x).V.Slot (Ax e.M x).V.Dims).2) else((Dq e ev (Ax e.M x).V).1,(F3 ev (Ax e.M x).V.Slot (Ax e.M x).V.Dims).1,0):=by
  unfold BG;rw[Alm (by rw[h0];simp)];rfl
 rw[hq]
 refine⟨_,Ve hE hv hw,fun h1=>MA (ct (by simpa using h1) rfl),fun h1=>?_⟩
 have h1':decide ((Dq e ev (Ax e.M x).V).2≠0)=false:=by simpa using h1
 rw[h1',AkN]
 generalize (Dq e ev (Ax e.M x).V).1=who
 have hsl:=hs.1
 have hsl2:=hs.2
 change AB _ [1,1,1,1,1,1,0,1,0] (Px e (Ax e.M x).V.Dims who (Ax e.M x).V.Slot 0)
 clear hq hw hv h h1 h1' hs
 generalize (Ax e.M x).V.Dims=ds at hd hsl2 ⊢
 generalize (Ax e.M x).V.Slot=sl at hsl hsl2 ⊢
 generalize hR:F3 ev sl ds=R
 refine Br Al Am (fun gg st=>∃ (k:Nat) (n:Int),k<=ds.length/\gg=ds.length - k/\0<=n/\n<=128+16384*k/\F3 ev n (ds.drop k)=R/\st=Px e ds who n k) (by kernel_rfl) (by kernel_rfl)
  ⟨ds.length,Up.of ⟨0,sl,AkV _,rfl,hsl,by omega,hR,rfl⟩⟩ ?_
 rintro gg st ⟨k,n,hk,rfl,hn0,hn1,hI,rfl⟩
 refine Ali (Aa0 _ _ _ e x ds who n k _) ⟨fun hlt=>?_,fun hge=>?_⟩
 ·have hlt':k<ds.length:=by have:=A3 hlt;omega
  have hto:(k:Int).toNat=k:=by omega
  rw[hto]
  obtain⟨hD,hE'⟩:=hd _ (Aw (d:=default) hlt')
  rw[BN (d:=default) hlt',Qk]at hI
  generalize ds.getD k default=d at hD hE' hI ⊢
  refine⟨by omega,_,hE',fun h2=>MA ?_,fun h2=>⟨fun h3=>MA ?_,fun h3=>?_⟩⟩
  ·have h2':decide ((ev d.I).2≠0)=true:=by simpa using h2
   rw[h2',AkQ]at hI
   subst hI
   exact ct h2' rfl
  ·have h2':decide ((ev d.I).2≠0)=false:=by simpa using h2
   rw[A7]at h3
   rw[h2',AkN]at hI
   have h3':(decide ((ev d.I).1<0)||decide (d.Len<=(ev d.I).1))=true:=h3
   rw[h3',AkQ]at hI
   subst hI
   exact ct rfl rfl
  ·have h2':decide ((ev d.I).2≠0)=false:=by simpa using h2
   rw[A7]at h3
   have h3':(decide ((ev d.I).1<0)||decide (d.Len<=(ev d.I).1))=false:=h3
   rw[h2',AkN,h3',AkN]at hI
   simp only[Ald,Alq]at h3'
   have hm:=AeB (i:=(ev d.I).1) (s:=d.Stride) (n:=d.Len) (by omega) (by omega) hD.l2 hD.s1 hD.s2
   have hk4:k<4:=by omega
   rw[BF (n:=(ev d.I).1*d.Stride) (by omega) (by omega),BF (by omega) (by omega),An (by omega)]
   exact⟨ds.length - (k+1),by omega,Up.of ⟨k+1,n+(ev d.I).1*d.Stride,by omega,rfl,by omega,by omega,hI,rfl⟩⟩
 ·obtain rfl:k=ds.length:=by have:=A5 hge;omega
  rw[Amp]at hI
  subst hI
  exact MA (cf rfl rfl)
theorem QU {e:D.Env}(hE:B4 e):Aj Tryz.prog 133 [] [.tp (Ag e)] [] (Ac (Kz e)):=by
 have hpl:=hE.fit.p
 refine Ah Al Am Tryz.func133 (by kernel_rfl) rfl (SW _ e) ?_
 refine AS Al Am e.S.Procs.length (fun k=>SG e k) (fun k=>∀ i,i<k->(!((IR e.M (e.S.Procs.getD i default).Type_).getD (e.S.Procs.getD i default).Loc.toNat default).Progress)=true) (by kernel_rfl) (by kernel_rfl) (fun i hi=>by omega) ?_
 intro k hk hI J next
 refine Ali (QV _ e k J) ⟨fun hlt=>?_,fun hge=>AG ?_⟩
 ·have hlt':k<e.S.Procs.length:=by have:=A3 hlt;omega
  have hto:(k:Int).toNat=k:=by omega
  rw[hto]
  have hf:=EB (hE.proc (Aw (d:=default) hlt'))
  refine⟨by omega,hf.1,hf.2.1,fun hy=>AG ?_,fun hy=>next _ hlt' (FO hI ?_) (Up.of ?_)⟩
  ·unfold Kz
   rw[Dh (f:=fun i=>!((IR e.M (e.S.Procs.getD i default).Type_).getD (e.S.Procs.getD i default).Loc.toNat default).Progress) hlt' (by show(!_)=false;unfold IR;rw[hy]<;>rfl)];rfl
  ·show(!_)=true
   unfold IR;rw[hy]<;>rfl
  ·rw[An (by omega)]<;>rfl
 ·have hge':e.S.Procs.length<=k:=by have:=A5 hge;omega
  unfold Kz
  rw[Bx.2 fun i hi=>hI i (by omega)]<;>rfl
structure V1 (m:D.Model) (k:Int) (x:D.Expr):Prop where
 op:1<=x.Op/\x.Op<=39
 a:1<=Bh x.Op->0<=x.A/\x.A<k
 b:2<=Bh x.Op->0<=x.B/\x.B<k
 c:3<=Bh x.Op->0<=x.C/\x.C<k
 num:x.Op=1->DF ⟨32,true⟩ x.N=true
 var:x.Op=2->EJ m k x.V=true
 poll:x.Op=30->Cx m k x.Args x.Match=true
theorem SY {k op p:Int}{i:Nat}(h:FX k op i p=true)(hi:i<Bh op):0<=p/\p<k:=by
 unfold FX at h
 rw[Aly hi,AkQ]at h
 exact CF.1 h
theorem ZD {m:D.Model}{k:Int}(h:EP m k=true):V1 m k (Ax m k):=by
 unfold EP at h
 simp only[AkO,AkS]at h
 obtain⟨⟨h1,⟨hA,hB⟩,hC⟩,h3⟩:=h
 refine⟨h1,fun hi=>SY hA (by omega),fun hi=>SY hB (by omega),fun hi=>SY hC (by omega),fun ho=>?_,fun ho=>?_,fun ho=>?_⟩
 ·rw[Alj ho]at h3;exact h3
 ·rw[Ak3 (by omega),Alj ho]at h3;exact h3
 ·rw[Ak3 (by omega),Ak3 (by omega),Alj ho,AkO]at h3;exact h3.1
theorem AbS {k:Int}{l:List Int}(h:Da k l=true):∀ a∈l,0<=a/\a<k:=fun a ha =>
 CF.1 ((Cm (d:=0) (f:=fun a=>inP k a)).1 h a ha)
structure ZR (m:D.Model) (k:Int) (v:D.Var):Prop where
 scope:0<=v.Scope/\v.Scope<=2
 slot:0<=v.Slot/\v.Slot<=128
 dims:v.Dims.length<=4
 who:v.Scope=2->0<=v.Who/\v.Who<k
 dim:∀ d∈v.Dims,AfL d/\0<=d.I/\d.I<k
theorem Lh {m:D.Model}{k:Int}{v:D.Var}(h:EJ m k v=true):ZR m k v:=by
 unfold EJ at h
 simp only[AkO,AkS]at h
 obtain⟨⟨⟨⟨⟨⟨h1,h2⟩,h3⟩,h4⟩,h5⟩,h6⟩,h7⟩:=h
 refine⟨⟨h1,h2⟩,⟨h3,h4⟩,h5,fun hs=>?_,fun d hd=>?_⟩
 ·rw[Aly hs,AkQ,AkO]at h6;exact CF.1 h6.1
 ·have:=(Cm (d:=default) (f:=fun d=>Nr k d)).1 h7 d hd
  unfold Nr at this
  simp only[AkO,AkS]at this
  obtain⟨⟨⟨⟨a1,a2⟩,a3⟩,a4⟩,a5⟩:=this
  have:=CF.1 a1
  exact⟨⟨a2,a3,a4,a5⟩,this⟩
theorem ZK {ev:Evl}:∀ {l:List D.Dim} {n r k:Int},(∀ d∈l,AfL d)->0<=n->n<r->(F3 ev n l).2=0->(F3 ev n l).1=k->0<=k/\k<Fv r l
 | [],n,r,k,_,h0,h1,_,hk=>by subst hk;exact⟨h0,h1⟩
 | d::l,n,r,k,hd,h0,h1,h2,hk=>by
  have hD:=hd d (AkY ..)
  rw[Qk]at h2 hk
  cases c1:decide ((ev d.I).2≠0) with
  | true=>rw[c1,AkQ]at h2;exact absurd h2 (AkW c1)
  | false =>
   rw[c1,AkN]at h2 hk
   cases c2:(decide ((ev d.I).1<0)||decide (d.Len<=(ev d.I).1)) with
   | true=>rw[c2,AkQ]at h2;simp at h2
   | false =>
    rw[c2,AkN]at h2 hk
    simp only[Ald,Alq]at c2
    have hm:=AeB (i:=(ev d.I).1) (s:=d.Stride) (n:=d.Len) (by omega) (by omega) hD.l2 hD.s1 hD.s2
    have:=ZK (r:=r+(d.Len - 1)*d.Stride) (fun x hx=>hd x (Alb _ hx)) (by omega) (by omega) h2 hk
    have hb:LG d=false:=by
     have:=hD.l1;have:=hD.l2;have:=hD.s1;have:=hD.s2
     unfold LG;simp;omega
    show 0<=k/\k<Fv r (d::l)
    unfold Fv
    rw[hb,AkN]
    exact this
structure QN (e:D.Env) (who k:Int):Prop where
 glob:who<0->0<=k/\k<e.S.Globals.length
 own:0<=who->who<e.S.Procs.length/\0<=k/\k<(DR e who).Frame.length
theorem Abs {m:D.Model}{k:Int}{v:D.Var}(h:ZR m k v):Ew v=Fv (v.Slot+1) v.Dims:=by
 have h1:=h.slot;have h2:=h.dims
 unfold Ew
 have:(decide (v.Slot<0)||(decide (1073741824<v.Slot)||decide (4<v.Dims.length)))=false:=by simp;omega
 rw[this,AkN]
theorem SL {e:D.Env}{ev:Evl}{x:D.Expr}{k:Int}(hE:B4 e)(hv:x.Op=2->ZR e.M k x.V)(h:(BG e ev x).2.2=0):QN e (BG e ev x).1 (BG e ev x).2.1:=by
 have hpid:=hE.pid
 unfold BG at h ⊢
 cases c0:decide (x.Op≠2) with
 | true=>rw[c0,AkQ]at h;simp at h
 | false =>
  rw[c0,AkN]at h
  rw[AkN]
  have hv:=hv (by simpa using c0)
  have hr:=Abs hv
  cases c1:decide ((Dq e ev x.V).2≠0) with
  | true=>rw[c1,AkQ]at h;exact absurd h (AkW c1)
  | false =>
   rw[c1,AkN]at h
   rw[AkN]
   cases c2:decide ((F3 ev x.V.Slot x.V.Dims).2≠0) with
   | true=>rw[c2,AkQ]at h;exact absurd h (AkW c2)
   | false =>
    rw[AkN]
    have hd:=ZK (ev:=ev) (l:=x.V.Dims) (n:=x.V.Slot) (r:=x.V.Slot+1) (fun d hd=>(hv.dim d hd).1) hv.slot.1 (by omega) (by simpa using c2) rfl
    rw[← hr]at hd
    show QN e (Dq e ev x.V).1 (F3 ev x.V.Slot x.V.Dims).1
    generalize (F3 ev x.V.Slot x.V.Dims).1=n at hd
    unfold Dq at c1 ⊢
    cases d1:decide (x.V.Scope=0) with
    | true =>
     rw[d1,AkQ]at c1
     rw[AkQ]
     cases d2:decide ((e.S.Globals.length:Int)<Ew x.V) with
     | true=>rw[d2,AkQ]at c1;simp at c1
     | false =>
      have:=Ak6 d2
      exact⟨fun _=>⟨hd.1,by omega⟩,fun h=>by simp at h⟩
    | false =>
     rw[d1,AkN]at c1
     rw[AkN]
     cases d2:decide (x.V.Scope=1) with
     | true =>
      rw[d2,AkQ]at c1
      rw[AkQ]
      cases d3:(decide (e.Pid<0)||decide (((DR e e.Pid).Frame.length:Int)<Ew x.V)) with
      | true=>rw[d3,AkQ]at c1;simp at c1
      | false =>
       simp only[Ald,Alq]at d3
       exact(show QN e e.Pid n from⟨fun h=>absurd h d3.1,fun _=>⟨hpid.2,hd.1,by omega⟩⟩)
     | false =>
      rw[d2,AkN]at c1
      rw[AkN]
      cases d3:decide ((ev x.V.Who).2≠0) with
      | true=>rw[d3,AkQ]at c1;rw[d3]at c1;exact absurd c1 (by simp)
      | false =>
       rw[d3,AkN]at c1
       rw[AkN]
       cases d4:(decide ((ev x.V.Who).1<0)||(decide ((e.S.Procs.length:Int)<=(ev x.V.Who).1)||decide ((DR e (ev x.V.Who).1).Type_≠x.V.Type_))) with
       | true=>rw[d4,AkQ]at c1;simp at c1
       | false =>
        rw[d4,AkN]at c1
        rw[AkN]
        simp only[Ald,Alq]at d4
        cases d5:decide (((DR e (ev x.V.Who).1).Frame.length:Int)<Ew x.V) with
        | true=>rw[d5,AkQ]at c1;simp at c1
        | false =>
         have:=Ak6 d5
         exact(show QN e (ev x.V.Who).1 n from⟨fun h=>absurd h d4.1,fun _=>⟨by omega,hd.1,by omega⟩⟩)
theorem Oz {m:D.Model}{k:Int}{a t:List Int}(h:Cx m k a t=true):a.length<=8/\t.length=a.length/\∀ x∈a,0<=x/\x<k:=by
 unfold Cx at h
 simp only[AkO,AkS]at h
 exact⟨h.1.1.1.2,h.1.1.2,AbS h.1.2⟩
theorem X6 {m:D.Model}{x:Int}(hx:0<=x/\x<m.Exprs.length):Ax m x∈m.Exprs:=Aw (d:=default) (by omega)
theorem AfC {e:D.Env}{x:Int}(hE:B4 e)(hx:0<=x/\x<e.M.Exprs.length):Len (Ax e.M x).Args.length:=by
 have:=(hE.wf.Exprs.2 _ (X6 hx)).Args.1
 unfold Len;omega
theorem YY {e:D.Env}{ev:Evl}{x:Int}(hE:B4 e)(hx:0<=x/\x<e.M.Exprs.length)(hok:V1 e.M x (Ax e.M x))(hev:∀ a,0<=a->a<x->EvS e a (ev a)):Aj Tryz.prog 128 [] [.tp (Ag e),Aa x] [] (L2 (BG e ev (Ax e.M x))):=by
 refine AaZ hE hx (hE.wf.Exprs.2 _ (X6 hx)).V (fun ho hs=>?_) (fun ho=>?_) (fun ho d hd=>?_)
 ·have hv:=Lh (hok.var ho)
  have h1:=hv.scope
  exact hev _ (hv.who (by omega)).1 (hv.who (by omega)).2
 ·have hv:=Lh (hok.var ho)
  exact⟨hv.slot.1,hv.slot.2,hv.dims⟩
 ·have hv:=Lh (hok.var ho)
  exact⟨(hv.dim d hd).1,hev _ (hv.dim d hd).2.1 (hv.dim d hd).2.2⟩
theorem Abr {e:D.Env}{ev:Evl}{x:Int}(hE:B4 e)(hop:(e.M.Exprs.getD x.toNat default).Op=2)(hok:V1 e.M x (Ax e.M x))(hsl:Aj Tryz.prog 128 [] [.tp (Ag e),Aa x] [] (L2 (BG e ev (Ax e.M x)))) :
  ∃ y:Int × Int × Int,Aj Tryz.prog 128 [] [.tp (Ag e),Aa x] [] (L2 y)/\((y.2.2 != 0)=true->leO [] []/\VV.le (.tup [.sc (.int .i64 0),.sc (.int .i64 y.2.2)]) (vII (Dy e ev (Ax e.M x))))/\((y.2.2 != 0)=false ->
   (decide (y.1<0)=true->(0<=y.2.1/\y.2.1<(e.S.Globals.length:Int))/\leO [] []/\VV.le (.tup [.sc (.int .i64 (e.S.Globals.getD y.2.1.toNat 0)),.sc (.int .i64 0)]) (vII (Dy e ev (Ax e.M x)))) /\
   (decide (y.1<0)=false->(0<=y.1/\y.1<(e.S.Procs.length:Int))/\(0<=y.2.1/\y.2.1<((e.S.Procs.getD y.1.toNat default).Frame.length:Int))/\leO [] []/\VV.le (.tup [.sc (.int .i64 ((e.S.Procs.getD y.1.toNat default).Frame.getD y.2.1.toNat 0)),.sc (.int .i64 0)]) (vII (Dy e ev (Ax e.M x))))):=by
 have hop':(Ax e.M x).Op=2:=hop
 have he:Dy e ev (Ax e.M x)=Y8 e ev (Ax e.M x):=by unfold Dy;rw[hop']<;>rfl
 rw[he]
 have hin:=SL (e:=e) (ev:=ev) hE (fun ho=>Lh (hok.var ho))
 refine⟨BG e ev (Ax e.M x),hsl,fun h=>Bs (ct (by simpa using h) rfl),fun h=>⟨fun h1=>?_,fun h1=>?_⟩⟩
 ·have h0:decide ((BG e ev (Ax e.M x)).2.2≠0)=false:=by simpa using h
  exact⟨(hin (by simpa using h0)).glob (AkW h1),Bs (cf h0 (ct h1 rfl))⟩
 ·have h0:decide ((BG e ev (Ax e.M x)).2.2≠0)=false:=by simpa using h
  have hi:=hin (by simpa using h0)
  have:=Ak6 h1
  exact⟨⟨by omega,(hi.own (by omega)).1⟩,(hi.own (by omega)).2,Bs (cf h0 (cf h1 rfl))⟩
theorem AcV {e:D.Env}{ev:Evl}{x:Int}(hop:(e.M.Exprs.getD x.toNat default).Op=36)(h:EvS e (Ax e.M x).A (ev (Ax e.M x).A)) :
  ∃ y:Int × Int,Aj Tryz.prog 94 [] [.tp (Ag e),Aa (Ax e.M x).A] [] (vII y)/\((y.2 != 0)=true->leO [] []/\VV.le (.tup [.sc (.int .i64 0),.sc (.int .i64 y.2)]) (vII (Dy e ev (Ax e.M x))))/\((y.2 != 0)=false ->
   ((true&&(bif decide (y.1>=0) then decide (y.1<(e.Able.length:Int)) else false)==true)=true->0<=y.1/\y.1<(e.Able.length:Int)) /\
   ∃ y1:Int × Int,Aj Tryz.prog 132 [] [Ac (bif bif decide (y.1>=0) then decide (y.1<(e.Able.length:Int)) else false then e.Able.getD y.1.toNat false else false)] [] (vII y1)/\leO [] []/\VV.le (vII y1) (vII (Dy e ev (Ax e.M x)))):=by
 have hop':(Ax e.M x).Op=36:=hop
 have he:Dy e ev (Ax e.M x)=ZQ e ev (Ax e.M x):=by unfold Dy;rw[hop']<;>rfl
 rw[he]
 refine⟨_,h,fun h1=>Bs (ct (by simpa using h1) rfl),fun h1=>⟨fun h2=>?_,_,C0,Bs (cf (by simpa using h1) ?_)⟩⟩
 ·simp at h2;omega
 ·simp only[A8,Amk,Bool.and_assoc]
theorem Aex {o:Int}(h:1<=o/\o<=39):o=1∨o=2∨o=3∨o=4∨o=5∨o=6∨o=7∨o=8∨o=9∨o=10∨o=11∨o=12∨o=13∨o=14∨o=15∨o=16∨o=17∨o=18∨o=19∨o=20∨o=21∨o=22∨o=23∨o=24∨o=25∨o=26∨o=27∨o=28∨o=29∨o=30∨o=31∨o=32∨o=33∨o=34∨o=35∨o=36∨o=37∨o=38∨o=39:=by omega
set_option maxHeartbeats 4000000 in
theorem R5 {e:D.Env}{ev:Evl}{x:Int}(hE:B4 e)(hx:0<=x/\x<e.M.Exprs.length)(hev:∀ a,0<=a->a<x->EvS e a (ev a)):EvS e x (Dy e ev (Ax e.M x)):=by
 have hxn:((x.toNat:Nat):Int)=x:=by omega
 have hok:V1 e.M x (Ax e.M x):=ZD (by have:=hE.expr x.toNat (by omega);rwa [hxn]at this)
 have hsl:=YY hE hx hok hev
 have hA:1<=Bh (Ax e.M x).Op->EvS e (Ax e.M x).A (ev (Ax e.M x).A):=fun h=>hev _ (hok.a h).1 (hok.a h).2
 have hB:2<=Bh (Ax e.M x).Op->EvS e (Ax e.M x).B (ev (Ax e.M x).B):=fun h=>hev _ (hok.b h).1 (hok.b h).2
 have hC:3<=Bh (Ax e.M x).Op->EvS e (Ax e.M x).C (ev (Ax e.M x).C):=fun h=>hev _ (hok.c h).1 (hok.c h).2
 have c1:=fun b=>KN (c:=CR Tryz.prog tb C7 DB true Tryz.f94 [] (vII (Dy e ev (Ax e.M x)))) Al Am (by kernel_rfl) (Acx _ _ e (Ax e.M x) b)
 have c2:=fun b=>KN (c:=CR Tryz.prog tb C7 DB true Tryz.f94 [] (vII (Dy e ev (Ax e.M x)))) Al Am (by kernel_rfl) (Acw _ _ e (Ax e.M x) b)
 refine Ah Al Am Tryz.func94 (by kernel_rfl) rfl (Afc _ _ e x) ⟨hx,?_⟩
 rcases Aex (o:=(Ax e.M x).Op) (by have:=hok.op;omega) with ho | ho | ho | ho | ho | ho | ho | ho | ho | ho | ho | ho | ho | ho | ho | ho | ho | ho | ho | ho | ho | ho | ho | ho | ho | ho | ho | ho | ho | ho | ho | ho | ho | ho | ho | ho | ho | ho | ho
 all_goals
  have hop:(e.M.Exprs.getD x.toNat default).Op=_:=ho
  repeat (first
   | refine⟨fun h=>absurd h (by (first | rw[hop] | rw[ho]);decide),fun _=>?_⟩
   | refine⟨fun _=>?_,fun h=>absurd h (by (first | rw[hop] | rw[ho]);decide)⟩
   | refine c1 _ ?_
   | refine c2 _ ?_)
  first
   | exact Bs (by unfold Dy;rw[ho]<;>rfl)
   | exact⟨_,Rh (hA (by rw[ho];decide)) (fun h=>absurd (by omega) h),Bs (by unfold Dy;rw[ho]<;>rfl)⟩
   | exact⟨_,Rh (hA (by rw[ho];decide)) (fun _=>hB (by rw[ho];decide)),Bs (by unfold Dy;rw[ho]<;>rfl)⟩
   | exact⟨_,P5 (hA (by rw[ho];decide)) (hB (by rw[ho];decide)) (fun h=>absurd h (by rw[ho];decide)),Bs (by unfold Dy;rw[ho]<;>rfl)⟩
   | exact⟨_,P5 (hA (by rw[ho];decide)) (hB (by rw[ho];decide)) (fun _=>hC (by rw[ho];decide)),Bs (by unfold Dy;rw[ho]<;>rfl)⟩
   | exact⟨_,AcS hE (hA (by rw[ho];decide)),Bs (by unfold Dy;rw[ho]<;>rfl)⟩
   | exact⟨_,UI (hA (by rw[ho];decide)) (AfC hE hx),Bs (by unfold Dy;rw[ho]<;>rfl)⟩
   | exact⟨_,C0,Bs (by unfold Dy;rw[ho]<;>rfl)⟩
   | exact⟨_,QU hE,_,C0,Bs (by unfold Dy;rw[ho]<;>rfl)⟩
   | exact Abr hE hop hok hsl
   | exact AcV hop (hA (by rw[ho];decide))
   | exact⟨_,AbD hE (hA (by rw[ho];decide)) (fun a ha=>hev _ ((Oz (hok.poll ho)).2.2 a ha).1 ((Oz (hok.poll ho)).2.2 a ha).2) (Oz (hok.poll ho)).1 (Oz (hok.poll ho)).2.1,Bs (by unfold Dy;rw[ho]<;>rfl)⟩
theorem LC {e:D.Env}(hE:B4 e):∀ (n:Nat) (x:Int),0<=x->x<e.M.Exprs.length->x<n->EvS e x (R6 e n x)
 | 0,x,h0,_,h2=>by omega
 | n+1,x,h0,h1,h2=>R5 hE ⟨h0,h1⟩ fun a ha hlt=>LC hE n a ha (by omega) (by omega)
theorem Rj {e:D.Env}(hE:B4 e){x a:Int}(hx:x<e.M.Exprs.length)(h0:0<=a)(h1:a<x):EvS e a (Fp e a):=LC hE _ a h0 (by omega) (by omega)
theorem X7 {e:D.Env}(hE:B4 e){x:Int}(hx:0<=x/\x<e.M.Exprs.length):EvS e x (Dy e (Fp e) (Ax e.M x)):=R5 hE hx fun _ h0 h1=>Rj hE hx.2 h0 h1
theorem En {e:D.Env}(hw:Av e.M)(hs:Be e.S)(x:Int):Aj Tryz.prog 93 [] [.agg (Ag e),Aa x] [] (Aa (CG e x)):=by
 refine Ah Al Am Tryz.func93 (by kernel_rfl) rfl (Vu _ e x) ⟨_,Gx hw hs (fun h=>(G3 h).clp),fun h=>C4 (ct (by simpa using h) rfl),fun h=>⟨fun h1=>C4 (cf (by simpa using h) (ct ?_ rfl)),fun h1=>C4 (cf (by simpa using h) (cf ?_ rfl))⟩⟩
 ·simp only[A7,Amk,AlX]at h1;exact h1
 ·simp only[A7,Amk,AlX]at h1;exact h1
theorem IX {e:D.Env}{x:Int}(hw:Av e.M)(h:CG e x=0):B4 e/\0<=x/\x<e.M.Exprs.length:=by
 unfold CG at h
 cases c1:decide (Ci e.M e.S≠0) with
 | true=>rw[c1,AkQ]at h;exact absurd h (AkW c1)
 | false =>
  rw[c1,AkN]at h
  obtain⟨h1,h2⟩:=LI (show Ci e.M e.S=0 by simpa using c1)
  cases c2:(decide (e.Pid < -1)||(decide ((e.S.Procs.length:Int)<=e.Pid)||(decide (x<0)||decide ((e.M.Exprs.length:Int)<=x)))) with
  | true=>rw[c2,AkQ]at h;simp at h
  | false =>
   simp only[Ald,Alq]at c2
   exact⟨⟨h2,h1,hw,by omega,by omega⟩,by omega,by omega⟩
theorem G8 {e:D.Env}(hw:Av e.M)(hs:Be e.S)(x:Int):Aj Tryz.prog 61 [] [.agg (Ag e),Aa x] [] (vII (AY e x)):=by
 refine Ah Al Am Tryz.func61 (by kernel_rfl) rfl (AcC _ _ e x) ⟨_,En hw hs x,fun h=>Bs (ct (by simpa using h) rfl),fun h=>?_⟩
 obtain⟨hE,hx⟩:=IX (x:=x) hw (by simpa using h)
 exact⟨_,X7 hE hx,Bs (cf (by simpa using h) rfl)⟩
theorem IY {e:D.Env}(hw:Av e.M)(hs:Be e.S)(x:Int):Aj Tryz.prog 183 [] [.agg (Ag e),Aa x] [] (vII (AD e x)):=by
 refine Ah Al Am Tryz.func183 (by kernel_rfl) rfl (AcD _ _ e x) ⟨_,En hw hs x,fun h=>Bs (ct (by simpa using h) rfl),fun h=>?_⟩
 obtain⟨hE,hx⟩:=IX (x:=x) hw (by simpa using h)
 exact⟨_,Lc (LC hE _ x hx.1 hx.2 hx.2),Bs (cf (by simpa using h) rfl)⟩
def B33 (n:Int):Prop:=-2147483648<=n/\n<=4294967295
def Q33 (t:Bool)(p:Int × Int):Prop:=p.2=0->B33 p.1/\(t=true->p.1=0∨p.1=1)
theorem EZ {t b:Bool}:Q33 t (DX b):=by cases b<;>simp[Q33,B33,DX]
theorem Za {t:Bool}{a c:Int}(h:c≠0):Q33 t (a,c):=fun h'=>absurd h' h
theorem JD {t:Bool}{a c:Int}(h:decide (c≠0)=true):Q33 t (a,c):=Za (AkW h)
theorem E0 {t c:Bool}{p q:Int × Int}(h1:c=true->Q33 t p)(h2:c=false->Q33 t q):Q33 t (bif c then p else q):=by
 cases c
 ·exact h2 rfl
 ·exact h1 rfl
theorem FV {t:Bool}{c:Prop}[Decidable c]{p q:Int × Int}(h1:c->Q33 t p)(h2:¬ c->Q33 t q):Q33 t (if c then p else q):=by
 split
 ·rename_i h;exact h1 h
 ·rename_i h;exact h2 h
theorem NS {t:Bool}{a c:Int}(h:B33 a)(ht:t=false):Q33 t (a,c):=fun _=>⟨h,fun h=>by rw[ht]at h;cases h⟩
theorem SQ {t:Bool}{p:Int × Int}(h:Q33 t p):Q33 false p:=fun h0=>⟨(h h0).1,fun h=>by cases h⟩
theorem Vk {t:D.Type}{v:Int}(h:DF t v=true):B33 v:=by
 unfold DF HY at h
 simp only[AkO,AkS]at h
 obtain⟨⟨h1,h2,h3⟩,h4⟩:=h
 have hp:=Aer t.Bits h1 h2
 unfold B33
 cases hs:t.Signed with
 | false=>rw[hs]at h4;simp at h4;omega
 | true =>
  rw[hs]at h3 h4
  simp at h3 h4
  rcases h3 with h3 | h3
  ·rw[h3]at h4;simp at h4;omega
  ·rw[h3]at h4;simp at h4;omega
theorem Pf {t:List D.Type}{l:List Int}{k:Nat}(h:BE t l=true)(hk:k<l.length):B33 (l.getD k 0):=by
 unfold BE at h
 simp only[AkO,AkS]at h
 exact Vk (Bx.1 h.2 k hk)
theorem S8 {b:Bool}:Im b=0∨Im b=1:=by cases b<;>simp[Im]
def AhI (n:Int):Prop:=-2147483648<=n/\n<=2147483647
theorem C3 {c:Prop}[Decidable c]{a b:Int}(h1:AhI a)(h2:AhI b):AhI (if c then a else b):=by
 split
 ·exact h1
 ·exact h2
theorem Aia (op a b:Int):-2147483648<=Et op a b/\Et op a b<=2147483647:=by
 have ho:∀ b:Bool,-2147483648<=Im b/\Im b<=2147483647:=fun b=>by rcases S8 (b:=b) with h | h<;>rw[h]<;>decide
 have hz:(-2147483648:Int)<=0/\(0:Int)<=2147483647:=by decide
 show AhI (Et op a b)
 unfold Et
 exact C3 (Bw _) (C3 (C3 hz (Bw _)) (C3 (C3 hz (YG _ _ (Bw _).1 (Bw _).2)) (C3 (Bw _) (C3 (Bw _) (C3 (Kw _ _ (Bw _)) (C3 (Kw _ _ (Bw _)) (C3 (ho _) (C3 (ho _) (C3 (ho _) (C3 (ho _) (C3 (ho _) (C3 (ho _) (C3 (EQ .and (.inl rfl) _ _) (C3 (EQ .xor (.inr (.inr rfl)) _ _) (C3 (EQ .or (.inr (.inl rfl)) _ _) hz)))))))))))))))
theorem AaE {op a b:Int}(h:13<=op/\op<=18):Et op a b=0∨Et op a b=1:=by
 obtain⟨h1,h2⟩:=h
 have:op=13∨op=14∨op=15∨op=16∨op=17∨op=18:=by omega
 rcases this with rfl | rfl | rfl | rfl | rfl | rfl<;>exact S8
theorem AgC (op a:Int):-2147483648<=Nd op a/\Nd op a<=2147483647:=by
 have hw:=Bw a
 unfold Nd
 split
 ·exact Bw _
 split
 ·rcases S8 (b:=wrap32 a==0) with h | h<;>rw[h]<;>decide
 split
 ·omega
 ·decide
def Kk (op:Int):Bool:=decide (13<=op/\op<=18)||(decide (op=4)||(decide (op=22)||(decide (op=23)||(decide (26<=op/\op<=30)||(decide (op=34)||(decide (op=35)||(decide (op=36)||decide (op=38))))))))
section
variable {e : D.Env} {ev:Evl}
theorem AhB {op a b:Int}:B33 (Et op a b):=by have:=Aia op a b;unfold B33;omega
theorem AhC {op a:Int}:B33 (Nd op a):=by have:=AgC op a;unfold B33;omega
theorem AiN {x:D.Expr}{t:Bool}(ht:t=true->x.Op=4∨(13<=x.Op/\x.Op<=18)):Q33 t (Ri ev x):=by
 unfold Ri
 refine E0 JD fun _=>E0 (fun h _=>⟨AhC,fun h'=>?_⟩) fun h=>E0 JD fun _=>fun _=>⟨AhB,fun h'=>?_⟩
 ·rcases ht h' with h4 | h4
  ·show Nd x.Op _=0∨Nd x.Op _=1
   rw[h4];exact S8
  ·simp at h;omega
 ·rcases ht h' with h4 | h4
  ·rw[h4]at h;simp at h
  ·exact AaE h4
theorem Agu {x:D.Expr}{t:Bool}(ht:t=true->x.Op≠24)(hB:Q33 false (ev x.B))(hC:x.Op=24->Q33 false (ev x.C)):Q33 t (Nj ev x):=by
 unfold Nj
 refine E0 JD fun _=>E0 (fun h=>?_) fun h=>E0 (fun _=>EZ) fun _=>E0 JD fun _=>EZ
 have h24:=AkW h
 cases t with
 | true=>exact absurd h24 (ht rfl)
 | false=>exact E0 (fun _=>hB) fun _=>hC h24
theorem Afm (hE:B4 e)(n:Int):(Co e n).Queue.length<=16:=by
 unfold Co
 by_cases h:(n - 1).toNat<e.S.Chans.length
 ·exact(hE.fit.q _ (Aw h)).1
 ·rw[List.getD,Al6 (show e.S.Chans.length<=(n - 1).toNat by omega)];exact AkV _
theorem AiQ {x:D.Expr}{t:Bool}(hE:B4 e)(ht:t=true->x.Op≠25):Q33 t (Sb e ev x):=by
 have hl:=Afm hE (DH e ev x.A).1
 unfold Sb
 refine E0 JD fun _=>?_
 unfold Ajq
 refine FV (fun h=>?_) fun _=>FV (fun _=>EZ) fun _=>FV (fun _=>EZ) fun _=>FV (fun _=>EZ) fun _=>EZ
 refine NS (by unfold B33;omega) ?_
 cases t with
 | true=>exact absurd h (ht rfl)
 | false=>rfl
theorem AiP {x:D.Expr}{t:Bool}:Q33 t (RB e ev x):=by
 unfold RB
 exact E0 JD fun _=>E0 (fun _=>Za (by decide)) fun _=>E0 JD fun _=>EZ
theorem AiR {x:D.Expr}{t:Bool}:Q33 t (ZQ e ev x):=by
 unfold ZQ
 exact E0 JD fun _=>EZ
theorem Aej {x:D.Expr}{t:Bool}(hE:B4 e)(ht:t=true->x.Op≠37):Q33 t (Ky e ev x):=by
 unfold Ky
 refine E0 JD fun _=>E0 (fun _=>Za (by decide)) fun h2=>E0 (fun h=>?_) fun _=>EZ
 simp only[Ald,Alq]at h2
 have hp:=EB (hE.proc (p:=DR e (ev x.A).1) (Aw (d:=default) (show(ev x.A).1.toNat<e.S.Procs.length by omega)))
 have hl:=(G3 hE.may).locs _ hp.1.1 hp.1.2
 have hloc:=hp.2.1
 refine NS (by unfold B33;omega) ?_
 cases t with
 | true=>exact absurd (AkW h) (ht rfl)
 | false=>rfl
theorem AiO {x:D.Expr}{k:Int}(hE:B4 e)(hv:x.Op=2->ZR e.M k x.V):Q33 false (Y8 e ev x):=by
 unfold Y8
 refine E0 JD fun h=>?_
 have hs:=SL hE hv (by simpa using h)
 refine E0 (fun h1=>?_) fun h1=>?_
 ·have:=hs.glob (AkW h1)
  exact NS (Pf hE.globals.2 (by omega)) rfl
 ·have h0:0<=(BG e ev x).1:=by have:=Ak6 h1;omega
  have:=hs.own h0
  have hp:=EB (hE.proc (p:=DR e (BG e ev x).1) (Aw (d:=default) (show(BG e ev x).1.toNat<e.S.Procs.length by omega)))
  exact NS (Pf hp.2.2.2.1 (by omega)) rfl
theorem Vw {x:D.Expr}{k:Int}(hE:B4 e)(hx:V1 e.M k x)(hB:2<=Bh x.Op->Q33 false (ev x.B))(hC:3<=Bh x.Op->Q33 false (ev x.C))(hl:0<=e.S.Last/\e.S.Last<16):Q33 (Kk x.Op) (Dy e ev x):=by
 have hpid:=hE.pid
 have hpl:=hE.fit.p
 have tt:∀ {o:Int},Kk o=true->(13<=o/\o<=18)∨o=4∨o=22∨o=23∨(26<=o/\o<=30)∨o=34∨o=35∨o=36∨o=38:=fun h=>by
  simpa only[Kk,AlV,AkS] using h
 unfold Dy
 refine FV (fun h=>NS (Vk (hx.num h)) (by rw[h]<;>rfl)) fun n1=>FV (fun h=>?_) fun n2=>FV (fun h=>?_) fun n3=>FV (fun h=>?_) fun n4=>FV (fun _=>AiP) fun n5 =>
  FV (fun h=>NS (by unfold B33;omega) (by rw[h]<;>rfl)) fun n6=>FV (fun h=>NS (by unfold B33;omega) (by rw[h];rfl)) fun n7=>FV (fun h=>NS (by unfold B33;omega) (by rw[h];rfl)) fun n8=>FV (fun _=>EZ) fun n9=>FV (fun _=>EZ) fun n10=>FV (fun _=>AiR) fun n11=>FV (fun h=>?_) fun n12=>FV (fun _=>Za (by decide)) fun n13=>?_
 ·rw[show Kk x.Op=false by rw[h]<;>rfl]
  exact AiO hE fun ho=>Lh (hx.var ho)
 ·refine Agu (fun ht h'=>by rw[h']at ht;cases ht) (hB ?_) fun h24=>hC (by rw[h24];decide)
  rcases h with h | h | h<;>rw[h]<;>decide
 ·exact AiQ hE fun ht h'=>by rw[h']at ht;cases ht
 ·exact Aej hE fun ht h'=>by rw[h']at ht;cases ht
 ·refine AiN fun ht=>?_
  have:=tt ht
  omega
end
theorem B4.last {e:D.Env}(h:B4 e):0<=e.S.Last/\e.S.Last<16:=by
 have h:=h.fits
 unfold DJ K6 at h
 simp only[AkO,AkS]at h
 exact⟨h.1.1.1.1.1.1.2,h.1.1.1.1.1.2⟩
theorem KL {e:D.Env}(hE:B4 e):∀ (n:Nat) (x:Int),0<=x->x<e.M.Exprs.length->x<n->Q33 (Kk (Ax e.M x).Op) (R6 e n x)
 | 0,x,h0,_,h2=>by omega
 | n+1,x,h0,h1,h2=>by
  have hxn:((x.toNat:Nat):Int)=x:=by omega
  have hok:V1 e.M x (Ax e.M x):=ZD (by have:=hE.expr x.toNat (by omega);rwa [hxn]at this)
  exact Vw hE hok (fun h=>SQ (KL hE n _ (hok.b h).1 (by have:=hok.b h;omega) (by have:=hok.b h;omega))) (fun h=>SQ (KL hE n _ (hok.c h).1 (by have:=hok.c h;omega) (by have:=hok.c h;omega))) hE.last
theorem Acv {e:D.Env}(hw:Av e.M)(x:Int):Q33 (Kk (Ax e.M x).Op) (AY e x):=by
 unfold AY
 refine E0 JD fun h=>?_
 obtain⟨hE,h0,h1⟩:=IX (x:=x) hw (by simpa using h)
 have hxn:((x.toNat:Nat):Int)=x:=by omega
 have hok:V1 e.M x (Ax e.M x):=ZD (by have:=hE.expr x.toNat (by omega);rwa [hxn]at this)
 exact Vw hE hok (fun h=>SQ (KL hE _ _ (hok.b h).1 (by have:=hok.b h;omega) (by have:=hok.b h;omega))) (fun h=>SQ (KL hE _ _ (hok.c h).1 (by have:=hok.c h;omega) (by have:=hok.c h;omega))) hE.last
def IW (t:D.Type)(v:Int):Int:=Em t.Bits t.Signed v
def setG (m:D.Model)(s:D.State)(k v:Int):D.State:={ s with Globals:=s.Globals.set k.toNat (IW (m.Globals.getD k.toNat default) v) }
def AdT (m:D.Model)(p:D.Process)(k v:Int):D.Process:={ p with Frame:=p.Frame.set k.toNat (IW ((A9 m p.Type_).Frame.getD k.toNat default) v) }
def setO (m:D.Model)(s:D.State)(who k v:Int):D.State:={ s with Procs:=s.Procs.set who.toNat (AdT m (s.Procs.getD who.toNat default) k v) }
def N9 (m:D.Model)(s:D.State)(who k v:Int):D.State:=bif decide (who<0) then setG m s k v else setO m s who k v
def AX (e:D.Env)(x v:Int):D.State × Int :=
 bif decide (CG e x≠0) then(default,CG e x)
 else bif decide ((BG e (Fp e) (Ax e.M x)).2.2≠0) then(default,(BG e (Fp e) (Ax e.M x)).2.2)
 else(N9 e.M e.S (BG e (Fp e) (Ax e.M x)).1 (BG e (Fp e) (Ax e.M x)).2.1 v,0)
theorem FP {α:Type}{l:List α}{i:Nat}{a x:α}(h:x∈l.set i a):x∈l∨x=a:=List.mem_or_eq_of_mem_set h
theorem Fit.setG {s:D.State}(h:Fit s)(m:D.Model)(k v:Int):Fit (setG m s k v):=⟨by show(List.set _ _ _).length<=_;rw[AlG];exact h.g,h.c,h.q,h.p,h.f⟩
theorem Fit.setO {s:D.State}(h:Fit s)(m:D.Model)(who k v:Int)(hw:who.toNat<s.Procs.length):Fit (setO m s who k v):=by
 refine⟨h.g,h.c,h.q,by show(List.set _ _ _).length<=_;rw[AlG];exact h.p,fun p hp=>?_⟩
 rcases FP hp with hp | rfl
 ·exact h.f p hp
 ·show(List.set _ _ _).length<=_
  rw[AlG]
  exact h.f _ (Aw (d:=default) hw)
theorem NZ : Fit (default:D.State):=⟨by decide,by decide,fun c hc=>(by cases hc),by decide,fun p hp=>(by cases hp)⟩
section
variable {e : D.Env} {x:Int}
theorem Afb (hE:B4 e)(h0:0<=x)(h1:x<e.M.Exprs.length):V1 e.M x (Ax e.M x):=by
 have hxn:((x.toNat:Nat):Int)=x:=by omega
 exact ZD (by have:=hE.expr x.toNat (by omega);rwa [hxn]at this)
theorem Ks (hE:B4 e)(h0:0<=x)(h1:x<e.M.Exprs.length){ev:Evl}(h:(BG e ev (Ax e.M x)).2.2=0):QN e (BG e ev (Ax e.M x)).1 (BG e ev (Ax e.M x)).2.1 :=
 SL hE (fun ho=>Lh ((Afb hE h0 h1).var ho)) h
theorem WT (hw:Av e.M)(v:Int):Fit (AX e x v).1:=by
 unfold AX
 cases c:decide (CG e x≠0) with
 | true=>exact NZ
 | false =>
  obtain⟨hE,h0,h1⟩:=IX (x:=x) hw (by simpa using c)
  rw[AkN]
  cases c2:decide ((BG e (Fp e) (Ax e.M x)).2.2≠0) with
  | true=>exact NZ
  | false =>
   rw[AkN]
   have hs:=Ks hE h0 h1 (ev:=Fp e) (by simpa using c2)
   show Fit (N9 _ _ _ _ _)
   unfold N9
   cases c3:decide ((BG e (Fp e) (Ax e.M x)).1<0) with
   | true=>exact hE.fit.setG _ _ _
   | false =>
    have hn:0<=(BG e (Fp e) (Ax e.M x)).1:=by have:=Ak6 c3;omega
    exact hE.fit.setO _ _ _ _ (by have:=hs.own hn;omega)
end
abbrev P0 : AF:=⟨fun _=>False,fun _=>False,0,[]⟩
theorem V.keep {w w':World}{x:VV}{v:Value}(h:V w P0 none x v)(hb:Below w.heap.size w w'):V w' P0 none x v :=
 h.mono hb.size (fun k hk _=>⟨hb.block k hk,fun h=>h⟩) (fun k hk _=>⟨hb.block k hk,fun h=>h⟩) trivial
theorem Aj.at {P:Program}{f:FuncId}{xs:List VV}{r:VV}(h:Aj P f [] xs [] r){w0 w:World}{vs:Array Value}(hL:Cn w0)(hB:∀ k,k∈D8->k<w0.heap.size)(hb:Below w0.heap.size w0 w)(hs:CT w P0 none xs vs) :
  Calls P f vs w fun e w'=>∃ v,e=.returned v/\Below w.heap.size w w'/\V w' P0 none r v :=
 h.start (hL.congr fun k hk=>hb.block k (hB k hk)) (fun k hk=>Ale (hB k hk) hb.size) hs
theorem PG {w:World}{E:AF}{x y:VV}{u v:Value}(h1:V w E none x u)(h2:V w E none y v):CT w E none [x,y] #[u,v]:=by
 refine⟨rfl,fun j z hz=>?_⟩
 match j,hz with
 | 0,hz=>simp only[AkZ,AkP]at hz;subst hz;exact h1
 | 1,hz=>simp only[AlA,AkZ,AkP]at hz;subst hz;exact h2
 | j+2,hz=>simp at hz
theorem Pg {w:World}{E:AF}{m:Option Phi}{a b c:Int}{v:Value}(h:V w E m (L2 (a,b,c)) v):v=.tuple #[.int .i64 a,.int .i64 b,.int .i64 c]:=by
 cases h with
 | @tup _ _ _ vs h1 h2 =>
  obtain⟨l⟩:=vs
  match l,h1,h2 with
  | [u0,u1,u2],_,h2 =>
   have e0:u0=.int .i64 a:=(h2 0 _ rfl).sc_inv
   have e1:u1=.int .i64 b:=(h2 1 _ rfl).sc_inv
   have e2:u2=.int .i64 c:=(h2 2 _ rfl).sc_inv
   rw[e0,e1,e2]
theorem Ai5 {l:List Value}(h:l.length=16):∃ a0 a1 a2 a3 a4 a5 a6 a7 a8 a9 a10 a11 a12 a13 a14 a15,l=[a0,a1,a2,a3,a4,a5,a6,a7,a8,a9,a10,a11,a12,a13,a14,a15]:=by
 match l,h with
 | [a0,a1,a2,a3,a4,a5,a6,a7,a8,a9,a10,a11,a12,a13,a14,a15],_=>exact⟨_,_,_,_,_,_,_,_,_,_,_,_,_,_,_,_,rfl⟩
def AtT (w:World)(ts:List D.Type)(v:Value):Prop :=
 AtL w ts.length (fun b off i=>w.cell? ⟨b,off+i*2,none⟩=some (.int .i64 (ts.getD i default).Bits)/\w.cell? ⟨b,off+i*2+1,none⟩=some (.bool (ts.getD i default).Signed)) v
def AtF (w:World)(ps:List D.Proc)(v:Value):Prop :=
 AtL w ps.length (fun b off i=>∃ u,w.cell? ⟨b,off+i*10+2,none⟩=some u/\AtT w (ps.getD i default).Frame u) v
section
variable {w w':World} {E:AF} {m:Option Phi} {v:Value} {fz:Bool}
theorem Akz {ts:List D.Type}(h:V w E m (AJ fz ts) v):AtT w ts v:=by
 obtain⟨ao,cap,rfl,h1,h2,h3⟩:=V.sl_inv h
 refine⟨ao,cap,rfl,h1,h2,fun hp=>?_⟩
 obtain⟨b,off,rfl,hb,_,_,u,hc,hv⟩:=h3 hp
 refine⟨b,off,rfl,hb,fun i hi=>⟨?_,?_⟩⟩
 ·have c1:=hc i 0 _ hi rfl
  have c2:=(hv i 0 _ hi rfl).sc_inv
  rw[c2]at c1
  simpa using c1
 ·have c1:=hc i 1 _ hi rfl
  have c2:=(hv i 1 _ hi rfl).sc_inv
  rw[c2]at c1
  simpa using c1
theorem AkL {ps:List D.Proc}(h:V w E m (A4 fz ps) v):AtF w ps v:=by
 obtain⟨ao,cap,rfl,h1,h2,h3⟩:=V.sl_inv h
 refine⟨ao,cap,rfl,h1,h2,fun hp=>?_⟩
 obtain⟨b,off,rfl,hb,_,_,u,hc,hv⟩:=h3 hp
 exact⟨b,off,rfl,hb,fun i hi=>⟨u i 2,hc i 2 _ hi rfl,Akz (hv i 2 _ hi rfl)⟩⟩
theorem AtT.below {ts:List D.Type}(h:AtT w ts v)(hb:Below w.heap.size w w'):AtT w' ts v :=
 AtL.map h hb.size fun b off i hl _ hc=>⟨by rw[hb.cell (p:=⟨b,off+i*2,none⟩) hl];exact hc.1,by rw[hb.cell (p:=⟨b,off+i*2+1,none⟩) hl];exact hc.2⟩
theorem AtF.below {ps:List D.Proc}(h:AtF w ps v)(hb:Below w.heap.size w w'):AtF w' ps v :=
 AtL.map h hb.size fun b off i hl _ ⟨u,h1,h2⟩=>⟨u,by rw[hb.cell (p:=⟨b,off+i*10+2,none⟩) hl];exact h1,h2.below hb⟩
theorem AtQ.below {q:List (List Int)}(h:AtQ w q v)(hb:Below w.heap.size w w'):AtQ w' q v :=
 AtL.map h hb.size fun b off i hl _ ⟨u,h1,h2⟩=>⟨u,by rw[hb.cell (p:=⟨b,off+i,none⟩) hl];exact h1,h2.below hb⟩
theorem AtC.below {cs:List D.Chan}(h:AtC w cs v)(hb:Below w.heap.size w w'):AtC w' cs v :=
 AtL.map h hb.size fun b off i hl _ ⟨u,h0,h1,h2⟩=>⟨u,by rw[hb.cell (p:=⟨b,off+i*2,none⟩) hl];exact h0,by rw[hb.cell (p:=⟨b,off+i*2+1,none⟩) hl];exact h1,h2.below hb⟩
theorem AtP.below {ps:List D.Process}(h:AtP w ps v)(hb:Below w.heap.size w w'):AtP w' ps v :=
 AtL.map h hb.size fun b off i hl _ ⟨u,h0,h1,h2,h3,h4⟩=>⟨u,by rw[hb.cell (p:=⟨b,off+i*4,none⟩) hl];exact h0,by rw[hb.cell (p:=⟨b,off+i*4+1,none⟩) hl];exact h1,
  by rw[hb.cell (p:=⟨b,off+i*4+2,none⟩) hl];exact h2,by rw[hb.cell (p:=⟨b,off+i*4+3,none⟩) hl];exact h3,h4.below hb⟩
end
structure QO (w:World) (e:D.Env) (c0 c1 c2 c3 c4 c6 c7 c8 c9 c15:Value):Prop where
 t:AtT w e.M.Globals c0
 f:AtF w e.M.Procs c4
 g:AtI w e.S.Globals c7
 c:AtC w e.S.Chans c8
 p:AtP w e.S.Procs c9
abbrev LD (e:D.Env)(c0 c1 c2 c3 c4 c6 c7 c8 c9 c15:Value):Array Value :=
 #[c0,c1,c2,c3,c4,.int .i64 e.M.Claim,c6,c7,c8,c9,.int .i64 e.S.Last,.int .i64 e.S.Alone,.int .i64 e.S.Claim,.int .i64 e.Pid,.bool e.Timeout,c15]
theorem Ahs {w:World}{E:AF}{m:Option Phi}{e:D.Env}{v:Value}(h:V w E m (.agg (Ag e)) v) :
  ∃ c0 c1 c2 c3 c4 c6 c7 c8 c9 c15,v=.agg (LD e c0 c1 c2 c3 c4 c6 c7 c8 c9 c15)/\QO w e c0 c1 c2 c3 c4 c6 c7 c8 c9 c15:=by
 obtain⟨vs,rfl,h1,h2⟩:=h.agg_inv
 obtain⟨l⟩:=vs
 obtain⟨a0,a1,a2,a3,a4,a5,a6,a7,a8,a9,a10,a11,a12,a13,a14,a15,rfl⟩:=Ai5 (l:=l) h1
 have e5:a5=.int .i64 e.M.Claim:=(h2 5 _ rfl).sc_inv
 have e10:a10=.int .i64 e.S.Last:=(h2 10 _ rfl).sc_inv
 have e11:a11=.int .i64 e.S.Alone:=(h2 11 _ rfl).sc_inv
 have e12:a12=.int .i64 e.S.Claim:=(h2 12 _ rfl).sc_inv
 have e13:a13=.int .i64 e.Pid:=(h2 13 _ rfl).sc_inv
 have e14:a14=.bool e.Timeout:=(h2 14 _ rfl).sc_inv
 subst e5 e10 e11 e12 e13 e14
 exact⟨_,_,_,_,_,_,_,_,_,_,rfl,Akz (h2 0 _ rfl),AkL (h2 4 _ rfl),AhD (h2 7 _ rfl),AkM (h2 8 _ rfl),AkK (h2 9 _ rfl)⟩
theorem Yc {w:World}{b:Nat}{vs:Array Value}{t:TypeId}{cs:List VV}(hb:w.heap[b]?=some (.cells vs t (0,0)))(h:V w P0 none (.agg cs) (.agg vs)):V w P0 none (.tp cs) (.pointer (some ⟨b,0,none⟩)):=by
 obtain⟨vs',e,h1,h2⟩:=h.agg_inv
 obtain rfl:vs=vs':=by simpa using e
 refine .tp (fun j=>vs.getD j undef) (BO hb) (fun h=>h) (fun j x hx=>?_) fun j x hx=>h2 j x hx
 have hj:j<vs.size:=by rw[h1];exact(AkR.1 hx).1
 rw[Alk]
 exact Ai hb (by simp[Array.getD,hj])
theorem M2 {w:World}{b:Nat}{u0 u1 u2 u3 u4 u5:Value}{t:TypeId}(h:w.heap[b]?=some (.cells #[u0,u1,u2,u3,u4,u5] t (0,0))) :
  w.cell? ⟨b,0,none⟩=some u0/\w.cell? ⟨b,1,none⟩=some u1/\w.cell? ⟨b,2,none⟩=some u2/\w.cell? ⟨b,3,none⟩=some u3/\w.cell? ⟨b,4,none⟩=some u4/\w.cell? ⟨b,5,none⟩=some u5 /\
  w.frozen? ⟨b,0,none⟩=false/\w.frozen? ⟨b,1,none⟩=false/\w.frozen? ⟨b,2,none⟩=false/\w.frozen? ⟨b,3,none⟩=false/\w.frozen? ⟨b,4,none⟩=false/\w.frozen? ⟨b,5,none⟩=false :=
 ⟨Ai h rfl,Ai h rfl,Ai h rfl,Ai h rfl,Ai h rfl,Ai h rfl,Ay h,Ay h,Ay h,Ay h,Ay h,Ay h⟩
theorem IE (w:World)(A Z:Obj):((w.alloc A).alloc Z).heap[w.heap.size]?=some A/\((w.alloc A).alloc Z).heap[w.heap.size+1]?=some Z/\((w.alloc A).alloc Z).heap.size=w.heap.size+1+1/\Below w.heap.size w ((w.alloc A).alloc Z):=by
 refine⟨?_,?_,by simp,((Below.refl _ w).alloc (AkU _) _).alloc (by simp) _⟩
 ·rw[Below.heap_alloc _ _ _ (by simp)];exact heap_alloc_new w A
 ·have:=heap_alloc_new (w.alloc A) Z;simpa using this
def Fc (w:World)(n0:Nat)(s:D.State)(vs:Array Value):Prop :=
 ∃ vg vc vp qs fs,vs=#[vg,vc,vp,.int .i64 s.Last,.int .i64 s.Alone,.int .i64 s.Claim]/\I8 w n0 vg s.Globals/\Hn w n0 vc qs s.Chans/\FN w n0 vp fs s.Procs
theorem Fc.zero (w:World)(n0:Nat):Fc w n0 default #[.slice none 0 0,.slice none 0 0,.slice none 0 0,.int .i64 0,.int .i64 0,.int .i64 0] :=
 ⟨_,_,_,[],[],rfl,World.ownsRow_nil _ _ _ _,Hn.nil _ _,FN.nil _ _⟩
theorem Fc.base {w:World}{n0 n1:Nat}{s:D.State}{vs:Array Value}(h:Fc w n0 s vs)(hb:n1<=n0):Fc w n1 s vs:=by
 obtain⟨vg,vc,vp,qs,fs,rfl,h1,h2,h3⟩:=h
 exact⟨vg,vc,vp,qs,fs,rfl,CJ h1 hb,⟨CJ h2.row hb,h2.len,fun i u c a b=>let ⟨vs,hq⟩:=h2.each i u c a b;⟨vs,hq.base hb⟩⟩,⟨CJ h3.row hb,h3.len,fun i u p a b=>CJ (h3.each i u p a b) hb,h3.apart⟩⟩
theorem Fc.aside {w w':World}{b B:Nat}{s:D.State}{vs:Array Value}(h:Fc w B s vs)(hb:b<B)(hT:Cb w w' (fun k=>k=b)):Fc w' B s vs:=by
 obtain⟨vg,vc,vp,qs,fs,rfl,h1,h2,h3⟩:=h
 have hk:∀ k,B<=k->k<w.heap.size->w'.heap[k]?=w.heap[k]?:=fun k h0 h1=>hT.block k h1 fun e=>by have e:k=b:=e;omega
 exact⟨vg,vc,vp,qs,fs,rfl,B6 (ts:=[D3]) h1 (Ce.of hk) (by simp),h2.kept (ts:=[D2,GZ,D3]) (Ce.of hk) (by simp) (by simp) (by simp),h3.kept (ts:=[Es,D3]) (Ce.of hk) (by simp) (by simp)⟩
def LP (w:World)(e:D.Env)(x v:Int)(r:Ending)(w':World):Prop :=
 ∃ vs,r=.returned (.tuple #[.agg vs,.int .i64 (AX e x v).2])/\Fc w' w.heap.size (AX e x v).1 vs/\Below w.heap.size w w'
theorem PB {e:D.Env}{x:Int}(hw:Av e.M)(h:CG e x=0):Aj Tryz.prog 128 [] [.tp (Ag e),Aa x] [] (L2 (BG e (Fp e) (Ax e.M x))):=by
 obtain⟨hE,hx⟩:=IX hw h
 exact YY hE hx (Afb hE hx.1 hx.2) fun a h0 h1=>Rj hE hx.2 h0 h1
abbrev Aht : TypeId:=124
set_option maxRecDepth 100000 in
set_option maxHeartbeats 4000000 in
theorem AaN {w:World}{e:D.Env}{x v:Int}{c0 c1 c2 c3 c4 c6 c7 c8 c9 c15:Value}(hw:Av e.M)(hs:Be e.S)(hL:Cn w)(hB:∀ k,k∈D8->k<w.heap.size)
  (hV:V w P0 none (.agg (Ag e)) (.agg (LD e c0 c1 c2 c3 c4 c6 c7 c8 c9 c15))) (hbad:CG e x≠0) :
  Calls Tryz.prog 161 #[.agg (LD e c0 c1 c2 c3 c4 c6 c7 c8 c9 c15),.int .i64 x,.int .i64 v] w (LP w e x v):=by
 have HQ:Hid (AX e x v=(default,CG e x)):=by unfold Hid AX;rw[Aly hbad,AkQ]
 have HC:=Lib.hid (En hw hs x)
 have hne:(CG e x==0)=false:=by simpa using hbad
 clear hbad
 unfold LD at hV ⊢
 go_enter Tryz.func161,Tryz.ntmps161
 obtain⟨B0,B1,B2,BB⟩:=IE w (.cells #[c0,c1,c2,c3,c4,.int .i64 e.M.Claim,c6,c7,c8,c9,.int .i64 e.S.Last,.int .i64 e.S.Alone,.int .i64 e.S.Claim,.int .i64 e.Pid,.bool e.Timeout,c15] Aht (0,0)) (.cells #[.slice none 0 0,.slice none 0 0,.slice none 0 0,.int .i64 0,.int .i64 0,.int .i64 0] BJ (0,0))
 go_wp2_with (go_at_call 93;refine(HC.out.at hL hB BB (PG (hV.keep BB) .sc)).mono ?_;rintro r w1 ⟨u,rfl,hb1,hu⟩;obtain rfl:=hu.sc_inv;have Z1:=(hb1.block _ (by omega)).trans B1;obtain⟨d0,d1,d2,d3,d4,d5,g0,g1,g2,g3,g4,g5⟩:=M2 Z1)
 have hres:=MN Z1 (.slice none 0 0) (.slice none 0 0) (.slice none 0 0) (.int .i64 0) (.int .i64 0) (.int .i64 0)
 have hT:=Ic (w:=w1) (b:=w.heap.size+1) (.slice none 0 0) (.slice none 0 0) (.slice none 0 0) (.int .i64 0) (.int .i64 0) (.int .i64 0)
 refine DV rfl rfl hres Tryz.underlying35 rfl (by kernel_rfl) rfl ?_
 generalize (((((((w1.setCell ⟨w.heap.size+1,0,none⟩ (.slice none 0 0)).setCell ⟨w.heap.size+1,1,none⟩ (.slice none 0 0)).setCell ⟨w.heap.size+1,2,none⟩ (.slice none 0 0)).setCell ⟨w.heap.size+1,3,none⟩ (.int .i64 0)).setCell ⟨w.heap.size+1,4,none⟩ (.int .i64 0)).setCell ⟨w.heap.size+1,5,none⟩ (.int .i64 0)))=wz at *
 have hBz:Below w.heap.size w w1:=BB.trans (hb1.mono (by omega))
 refine⟨_,by rw[HQ.out];rfl,by rw[HQ.out];exact Fc.zero _ _,hBz.trans (hT.below hBz.size fun j hj=>by have hj:j=w.heap.size+1:=hj;omega)⟩
set_option maxRecDepth 100000 in
set_option maxHeartbeats 4000000 in
theorem WP {w:World}{e:D.Env}{x v:Int}{c0 c1 c2 c3 c4 c6 c7 c8 c9 c15:Value}(hw:Av e.M)(hs:Be e.S)(hL:Cn w)(hB:∀ k,k∈D8->k<w.heap.size)
  (hV:V w P0 none (.agg (Ag e)) (.agg (LD e c0 c1 c2 c3 c4 c6 c7 c8 c9 c15))) (hgood:CG e x=0) (hbad:(BG e (Fp e) (Ax e.M x)).2.2≠0) :
  Calls Tryz.prog 161 #[.agg (LD e c0 c1 c2 c3 c4 c6 c7 c8 c9 c15),.int .i64 x,.int .i64 v] w (LP w e x v):=by
 have HQ:Hid (AX e x v=(default,(BG e (Fp e) (Ax e.M x)).2.2)):=by unfold Hid AX;rw[Alm (by omega),AkN,Aly hbad,AkQ]
 have HC:=Lib.hid (En hw hs x)
 have HS:=Lib.hid (PB hw hgood)
 generalize BG e (Fp e) (Ax e.M x)=sv at HQ HS hbad
 obtain⟨who,k,err⟩:=sv
 have hne:(err==0)=false:=by simpa using hbad
 change Hid (AX e x v=(default,err)) at HQ
 clear hbad
 unfold LD at hV ⊢
 rw[hgood]at HC
 go_enter Tryz.func161,Tryz.ntmps161
 obtain⟨B0,B1,B2,BB⟩:=IE w (.cells #[c0,c1,c2,c3,c4,.int .i64 e.M.Claim,c6,c7,c8,c9,.int .i64 e.S.Last,.int .i64 e.S.Alone,.int .i64 e.S.Claim,.int .i64 e.Pid,.bool e.Timeout,c15] Aht (0,0)) (.cells #[.slice none 0 0,.slice none 0 0,.slice none 0 0,.int .i64 0,.int .i64 0,.int .i64 0] BJ (0,0))
 go_wp2_with (first
  | (go_at_call 93;refine(HC.out.at hL hB BB (PG (hV.keep BB) .sc)).mono ?_;rintro r w1 ⟨u,rfl,hb1,hu⟩;obtain rfl:=hu.sc_inv;have Z0:=(hb1.block _ (by omega)).trans B0;have Z1:=(hb1.block _ (by omega)).trans B1;have BW:=BB.trans (hb1.mono (by omega)))
  | (go_at_call 128;refine(HS.out.at hL hB BW (PG (Yc Z0 (hV.keep BW)) .sc)).mono ?_;rintro r w2 ⟨u,rfl,hb2,hu⟩;obtain rfl:=Pg hu;have Y1:=(hb2.block _ (BO Z1)).trans Z1;obtain⟨d0,d1,d2,d3,d4,d5,g0,g1,g2,g3,g4,g5⟩:=M2 Y1))
 have hres:=MN Y1 (.slice none 0 0) (.slice none 0 0) (.slice none 0 0) (.int .i64 0) (.int .i64 0) (.int .i64 0)
 have hT:=Ic (w:=w2) (b:=w.heap.size+1) (.slice none 0 0) (.slice none 0 0) (.slice none 0 0) (.int .i64 0) (.int .i64 0) (.int .i64 0)
 refine DV rfl rfl hres Tryz.underlying35 rfl (by kernel_rfl) rfl ?_
 generalize (((((((w2.setCell ⟨w.heap.size+1,0,none⟩ (.slice none 0 0)).setCell ⟨w.heap.size+1,1,none⟩ (.slice none 0 0)).setCell ⟨w.heap.size+1,2,none⟩ (.slice none 0 0)).setCell ⟨w.heap.size+1,3,none⟩ (.int .i64 0)).setCell ⟨w.heap.size+1,4,none⟩ (.int .i64 0)).setCell ⟨w.heap.size+1,5,none⟩ (.int .i64 0)))=wz at *
 have hBz:Below w.heap.size w w2:=BW.trans (hb2.mono BW.size)
 refine⟨_,by rw[HQ.out];rfl,by rw[HQ.out];exact Fc.zero _ _,hBz.trans (hT.below hBz.size fun j hj=>by have hj:j=w.heap.size+1:=hj;omega)⟩
section
variable {w w4 w' w5:World} {s:D.State} {vg vc vp:Value} {n1 g gcap kn:Nat} {qs fs:List Value}
theorem V2.kept5 (h:V2 w w4 w' s vg vc vp n1 qs fs)(hk:∀ k,w.heap.size<=k->k<w'.heap.size->w5.heap[k]?=w'.heap[k]?)(ts:List TypeId):Ce w4 w5 n1 ts:=fun k cur t h0 h1 hc _=>by
 have e:=h.kept k h0 h1
 exact(hk k (Alg h.n0 h0) (BO (e.trans hc))).trans e
theorem AcH (h:V2 w w4 w' s (.slice (some ⟨g,0,none⟩) s.Globals.length gcap) vc vp n1 qs fs)(hk:∀ k,w.heap.size<=k->k<w'.heap.size->w5.heap[k]?=w'.heap[k]?)(x:Int) :
  Fc (w5.setCell ⟨g,kn,none⟩ (.int .i64 x)) w.heap.size { s with Globals:=s.Globals.set kn x } #[.slice (some ⟨g,0,none⟩) s.Globals.length gcap,vc,vp,.int .i64 s.Last,.int .i64 s.Alone,.int .i64 s.Claim]:=by
 have hn0:=h.n0
 have hn2:=h.n2
 have hg:=h.g1 g rfl
 have low:∀ {qs:List Value} {v:Value} {cs:List D.Chan} {w':World},Hn w' n1 v qs cs->Hn w' w.heap.size v qs cs:=fun h2=>⟨CJ h2.row hn0,h2.len,fun i u c a b=>let ⟨vs,hq⟩:=h2.each i u c a b;⟨vs,hq.base hn0⟩⟩
 have lowp:∀ {fs:List Value} {v:Value} {ps:List D.Process} {w':World},FN w' w4.heap.size v fs ps->FN w' w.heap.size v fs ps:=fun h3=>⟨CJ h3.row (by omega),h3.len,fun i u p a b=>CJ (h3.each i u p a b) (by omega),h3.apart⟩
 refine⟨_,_,_,qs,fs,rfl,?_,low ?_,lowp ?_⟩
 ·have h1:=Y6 (k:=kn) (B6 (ts:=[D3]) h.g (Ce.of hk) (by simp)) x
  rwa [AlG]at h1
 ·exact((h.c.kept (h.kept5 hk [D2,GZ,D3]) (by simp) (by simp) (by simp)).kept (ts:=[D2,GZ,D3]) (Ce.low hg) (by simp) (by simp) (by simp))
 ·exact((h.p.kept (ts:=[Es,D3]) (Ce.of fun k h0 h1=>hk k (by omega) h1) (by simp) (by simp)).kept (ts:=[Es,D3]) (Ce.low (by omega)) (by simp) (by simp))
theorem AcG {i:Nat}(h:V2 w w4 w' s vg vc vp n1 qs fs)(hi:i<s.Procs.length)(hf:fs[i]?=some (.slice (some ⟨g,0,none⟩) (s.Procs.getD i default).Frame.length gcap))(hk:∀ k,w.heap.size<=k->k<w'.heap.size->w5.heap[k]?=w'.heap[k]?)(x:Int) :
  Fc (w5.setCell ⟨g,kn,none⟩ (.int .i64 x)) w.heap.size { s with Procs:=s.Procs.set i { s.Procs.getD i default with Frame:=(s.Procs.getD i default).Frame.set kn x } } #[vg,vc,vp,.int .i64 s.Last,.int .i64 s.Alone,.int .i64 s.Claim]:=by
 have hn0:=h.n0
 have hn2:=h.n2
 have hP:FN w5 w4.heap.size vp fs s.Procs:=h.p.kept (ts:=[Es,D3]) (Ce.of fun k h0 h1=>hk k (by omega) h1) (by simp) (by simp)
 have hg:=((h.p.each i _ (s.Procs.getD i default) hf (by simp[List.getD,hi])).lt g rfl).1
 have low:∀ {qs:List Value} {v:Value} {cs:List D.Chan} {w':World},Hn w' n1 v qs cs->Hn w' w.heap.size v qs cs:=fun h2=>⟨CJ h2.row hn0,h2.len,fun i u c a b=>let ⟨vs,hq⟩:=h2.each i u c a b;⟨vs,hq.base hn0⟩⟩
 have lowp:∀ {fs:List Value} {v:Value} {ps:List D.Process} {w':World},FN w' w4.heap.size v fs ps->FN w' w.heap.size v fs ps:=fun h3=>⟨CJ h3.row (by omega),h3.len,fun i u p a b=>CJ (h3.each i u p a b) (by omega),h3.apart⟩
 refine⟨_,_,_,qs,fs,rfl,?_,low ?_,lowp ?_⟩
 ·refine CE (B6 (ts:=[D3]) h.g (Ce.of hk) (by simp)) fun k e=>Below.heap_setCell _ _ _ _ ?_
  have:=h.g1 k e
  simp;omega
 ·exact(h.c.kept (ts:=[D2,GZ,D3]) (fun k cur t h0 h1 hc ht=>(Below.heap_setCell _ _ _ _ (by simp;omega)).trans (h.kept5 hk [D2,GZ,D3] k cur t h0 h1 hc ht)) (by simp) (by simp) (by simp))
 ·exact(FN.write hP hi hf x)
end
theorem QO.below {w w':World}{e:D.Env}{c0 c1 c2 c3 c4 c6 c7 c8 c9 c15:Value}(h:QO w e c0 c1 c2 c3 c4 c6 c7 c8 c9 c15)(hb:Below w.heap.size w w'):QO w' e c0 c1 c2 c3 c4 c6 c7 c8 c9 c15 :=
 ⟨h.t.below hb,h.f.below hb,h.g.below hb,h.c.below hb,h.p.below hb⟩
theorem AaM {w w2 w6 w7:World}{e:D.Env}{x v:Int}{kn:Nat}{ty:D.Type}{vs:Array Value}(HQ:Hid (AX e x v=(setG e.M e.S kn v,0)))(HTY:Hid (e.M.Globals.getD kn default=ty))
  (HV:Hid (Fc w6 w2.heap.size { e.S with Globals:=e.S.Globals.set kn (Em ty.Bits ty.Signed v) } vs)) (HB:Below w.heap.size w w6)
  (hT:Cb w6 w7 (fun k=>k=w.heap.size+1)) (hr:w.heap.size+1<w2.heap.size):LP w e x v (.returned (.tuple #[.agg vs,.int .i64 0])) w7:=by
 refine⟨vs,by rw[HQ.out],?_,HB.trans (hT.below HB.size fun j hj=>by have hj:j=w.heap.size+1:=hj;omega)⟩
 rw[HQ.out]
 have e1:setG e.M e.S kn v={ e.S with Globals:=e.S.Globals.set kn (Em ty.Bits ty.Signed v) }:=by
  unfold setG IW
  rw[show((kn:Nat):Int).toNat=kn by omega,HTY.out]
 rw[e1]
 exact(Fc.aside (b:=w.heap.size+1) (B:=w2.heap.size) HV.out hr hT).base (by omega)
set_option maxRecDepth 100000 in
set_option maxHeartbeats 4000000 in
theorem WR {w:World}{e:D.Env}{x v who k:Int}{c0 c1 c2 c3 c4 c6 c7 c8 c9 c15:Value}(hw:Av e.M)(hs:Be e.S)(hL:Cn w)(hB:∀ k,k∈D8->k<w.heap.size)
  (hV:V w P0 none (.agg (Ag e)) (.agg (LD e c0 c1 c2 c3 c4 c6 c7 c8 c9 c15))) (hat:QO w e c0 c1 c2 c3 c4 c6 c7 c8 c9 c15) (hgood:CG e x=0) (hsl:BG e (Fp e) (Ax e.M x)=(who,k,0)) (hwho:who<0) :
  Calls Tryz.prog 161 #[.agg (LD e c0 c1 c2 c3 c4 c6 c7 c8 c9 c15),.int .i64 x,.int .i64 v] w (LP w e x v):=by
 have HQ:Hid (AX e x v=(setG e.M e.S k v,0)):=by
  unfold Hid AX N9
  rw[Alm (by omega),AkN,hsl]
  show(bif decide ((0:Int)≠0) then _ else _)=_
  rw[Alm (by simp),AkN,Aly hwho,AkQ]
 have HC:=Lib.hid (En hw hs x)
 have HS:=Lib.hid (PB hw hgood)
 obtain⟨hE,hx0,hx1⟩:=IX hw hgood
 have hin:=(Ks hE hx0 hx1 (ev:=Fp e) (by rw[hsl])).glob (by rw[hsl];exact hwho)
 have hfit:=hE.fit
 have htl:e.S.Globals.length=e.M.Globals.length:=EK hE.globals.2
 rw[hsl]at hin HS
 change 0<=k/\k<e.S.Globals.length at hin
 obtain⟨kn,rfl⟩:∃ kn:Nat,k=kn:=⟨k.toNat,by omega⟩
 have hkn:kn<e.S.Globals.length:=by omega
 have hkt:kn<e.M.Globals.length:=by omega
 obtain⟨tb,toff,tcap,rfl,ht1,ht2,htb,htc⟩:∃ b off cap,c0=.slice (some ⟨b,off,none⟩) e.M.Globals.length cap/\e.M.Globals.length<=cap/\cap<=maxLen/\b<w.heap.size/\∀ i,i<e.M.Globals.length->w.cell? ⟨b,off+i*2,none⟩=some (.int .i64 (e.M.Globals.getD i default).Bits)/\w.cell? ⟨b,off+i*2+1,none⟩=some (.bool (e.M.Globals.getD i default).Signed):=by
  obtain⟨ao,cap,rfl,h1,h2,h3⟩:=hat.t
  obtain⟨b,off,rfl,h4,h5⟩:=h3 (by omega)
  exact⟨b,off,cap,rfl,h1,h2,h4,h5⟩
 obtain⟨ty0,ty1⟩:=htc kn hkt
 obtain⟨ty,hty⟩:∃ ty,e.M.Globals.getD kn default=ty:=⟨_,rfl⟩
 rw[hty]at ty0 ty1
 have HTY:=Lib.hid hty
 clear hty
 have HTL:=Lib.hid htl
 clear htc htl
 clear hin hsl hE
 unfold LD at hV ⊢
 rw[hgood]at HC
 go_enter Tryz.func161,Tryz.ntmps161
 obtain⟨B0,B1,B2,BB⟩:=IE w (.cells #[.slice (some ⟨tb,toff,none⟩) e.M.Globals.length tcap,c1,c2,c3,c4,.int .i64 e.M.Claim,c6,c7,c8,c9,.int .i64 e.S.Last,.int .i64 e.S.Alone,.int .i64 e.S.Claim,.int .i64 e.Pid,.bool e.Timeout,c15] Aht (0,0)) (.cells #[.slice none 0 0,.slice none 0 0,.slice none 0 0,.int .i64 0,.int .i64 0,.int .i64 0] BJ (0,0))
 go_wp2_with (first
  | (go_at_call 93;refine(HC.out.at hL hB BB (PG (hV.keep BB) .sc)).mono ?_;rintro r w1 ⟨u,rfl,hb1,hu⟩;obtain rfl:=hu.sc_inv;have Z0:=(hb1.block _ (by omega)).trans B0;have Z1:=(hb1.block _ (by omega)).trans B1;have BW:=BB.trans (hb1.mono (by omega)))
  | (go_at_call 128;refine(HS.out.at hL hB BW (PG (Yc Z0 (hV.keep BW)) .sc)).mono ?_;rintro r w2 ⟨u,rfl,hb2,hu⟩;obtain rfl:=Pg hu;have Y0:=(hb2.block _ (BO Z0)).trans Z0;have Y1:=(hb2.block _ (BO Z1)).trans Z1;have BX:=BW.trans (hb2.mono BW.size);have s7:w2.cell? ⟨w.heap.size,7,none⟩=some c7:=Ai Y0 rfl;have s8:w2.cell? ⟨w.heap.size,8,none⟩=some c8:=Ai Y0 rfl;have s9:w2.cell? ⟨w.heap.size,9,none⟩=some c9:=Ai Y0 rfl;have s10:w2.cell? ⟨w.heap.size,10,none⟩=some (.int .i64 e.S.Last):=Ai Y0 rfl;have s11:w2.cell? ⟨w.heap.size,11,none⟩=some (.int .i64 e.S.Alone):=Ai Y0 rfl;have s12:w2.cell? ⟨w.heap.size,12,none⟩=some (.int .i64 e.S.Claim):=Ai Y0 rfl)
  | (go_at_call 14;refine(Qm hfit (hat.below BX).g (hat.below BX).c (hat.below BX).p).mono ?_;rintro r w3 ⟨vg,vc,vp,n1,qs,fs,w4,rfl,hcp⟩;obtain⟨ag,gcap,rfl,hg1,hg2,hg3⟩:=Dd hcp.g;obtain⟨ac,ccap,rfl,_⟩:=Dd hcp.c.row;obtain⟨ap,pcap,rfl,_⟩:=Dd hcp.p.row))
 have hz3:=hcp.below.size
 have hz2:=BX.size
 have hsz0:=BO Y1
 obtain⟨g,rfl,hgb,hgl,hgc⟩:=hg3 (by omega)
 obtain⟨gcur,hgk⟩:=AW hcp.g (k:=g) rfl
 have hgn:=hcp.g1 g rfl
 have K0:=(Below.heap_alloc w3 (.cells #[.slice (some ⟨g,0,none⟩) e.S.Globals.length gcap,.slice ac e.S.Chans.length ccap,.slice ap e.S.Procs.length pcap,.int .i64 e.S.Last,.int .i64 e.S.Alone,.int .i64 e.S.Claim] BJ (0,0)) _ (by omega)).trans ((hcp.below.block _ (BO Y0)).trans Y0)
 have K1:=(Below.heap_alloc w3 (.cells #[.slice (some ⟨g,0,none⟩) e.S.Globals.length gcap,.slice ac e.S.Chans.length ccap,.slice ap e.S.Procs.length pcap,.int .i64 e.S.Last,.int .i64 e.S.Alone,.int .i64 e.S.Claim] BJ (0,0)) _ (by omega)).trans ((hcp.below.block _ (BO Y1)).trans Y1)
 have K2:=heap_alloc_new w3 (.cells #[.slice (some ⟨g,0,none⟩) e.S.Globals.length gcap,.slice ac e.S.Chans.length ccap,.slice ap e.S.Procs.length pcap,.int .i64 e.S.Last,.int .i64 e.S.Alone,.int .i64 e.S.Claim] BJ (0,0))
 have KB:Below w3.heap.size w3 (w3.alloc (.cells #[.slice (some ⟨g,0,none⟩) e.S.Globals.length gcap,.slice ac e.S.Chans.length ccap,.slice ap e.S.Procs.length pcap,.int .i64 e.S.Last,.int .i64 e.S.Alone,.int .i64 e.S.Claim] BJ (0,0))):=(Below.refl _ w3).alloc (AkU _) _
 have KZ:(w3.alloc (.cells #[.slice (some ⟨g,0,none⟩) e.S.Globals.length gcap,.slice ac e.S.Chans.length ccap,.slice ap e.S.Procs.length pcap,.int .i64 e.S.Last,.int .i64 e.S.Alone,.int .i64 e.S.Claim] BJ (0,0))).heap.size=w3.heap.size+1:=by simp
 generalize w3.alloc (.cells #[.slice (some ⟨g,0,none⟩) e.S.Globals.length gcap,.slice ac e.S.Chans.length ccap,.slice ap e.S.Procs.length pcap,.int .i64 e.S.Last,.int .i64 e.S.Alone,.int .i64 e.S.Claim] BJ (0,0))=wd at *
 have BD:Below w.heap.size w wd:=(BX.trans (hcp.below.mono hz2)).trans (KB.mono (by omega))
 rw[← BD.cell (p:=⟨tb,toff+kn*2,none⟩) htb]at ty0
 rw[← BD.cell (p:=⟨tb,toff+kn*2+1,none⟩) htb]at ty1
 have x0:wd.cell? ⟨w.heap.size,0,none⟩=some (.slice (some ⟨tb,toff,none⟩) e.M.Globals.length tcap):=Ai K0 rfl
 have x1:wd.cell? ⟨w3.heap.size,0,none⟩=some (.slice (some ⟨g,0,none⟩) e.S.Globals.length gcap):=Ai K2 rfl
 have hgw:wd.heap[g]?=some (.cells gcur D3 (0,0)):=(KB.block _ hgl).trans hgk
 have xg:wd.cell? ⟨g,kn,none⟩=some (.int .i64 (e.S.Globals.getD kn 0)):=by
  rw[KB.cell (p:=⟨g,kn,none⟩) hgl,hgc kn (by omega)];simp[List.getD,hkn]
 have hgd:g<wd.heap.size:=by omega
 have hsd:w3.heap.size<wd.heap.size:=by omega
 have hsg:w3.heap.size≠(⟨g,kn,none⟩:Addr).block:=by simp;omega
 have hrg:w.heap.size+1≠(⟨g,kn,none⟩:Addr).block:=by simp;omega
 have hrd:w.heap.size+1<wd.heap.size:=by omega
 have hng:w.heap.size<=(⟨g,kn,none⟩:Addr).block:=by simp;omega
 have hrw:w.heap.size+1<w2.heap.size:=hsz0
 clear s7 s8 s9 s10 s11 s12 hgc hg3
 have hg2':=hg2
 have ht2':=ht2
 unfold maxLen at hg2' ht2'
 go_region_with (go_at_call 37;(with_reducible refine(AfW _ _ _ _).mono ?_);rintro r w5 ⟨rfl,hb5⟩;have hb5':Below wd.heap.size wd w5:=⟨hb5.os,hb5.tape,hb5.output,hb5.size,hb5.block⟩;have x5:w5.cell? ⟨g,kn,none⟩=_:=(hb5'.cell (p:=⟨g,kn,none⟩) hgd).trans xg;have y1:w5.cell? ⟨w3.heap.size,0,none⟩=_:=(hb5'.cell (p:=⟨w3.heap.size,0,none⟩) hsd).trans x1;have f5:w5.frozen? ⟨g,kn,none⟩=false:=Ay ((hb5'.block _ hgd).trans hgw))
 all_goals
  have L0:(w5.setCell ⟨g,kn,none⟩ (.int .i64 (Em ty.Bits ty.Signed v))).heap[w3.heap.size]?=_:=(Below.heap_setCell _ _ _ _ hsg).trans ((hb5'.block _ hsd).trans K2)
  have L1:(w5.setCell ⟨g,kn,none⟩ (.int .i64 (Em ty.Bits ty.Signed v))).heap[w.heap.size+1]?=_:=(Below.heap_setCell _ _ _ _ hrg).trans ((hb5'.block _ hrd).trans K1)
  have HV:Hid (Fc (w5.setCell ⟨g,kn,none⟩ (.int .i64 (Em ty.Bits ty.Signed v))) w2.heap.size { e.S with Globals:=e.S.Globals.set kn (Em ty.Bits ty.Signed v) } #[.slice (some ⟨g,0,none⟩) e.S.Globals.length gcap,.slice ac e.S.Chans.length ccap,.slice ap e.S.Procs.length pcap,.int .i64 e.S.Last,.int .i64 e.S.Alone,.int .i64 e.S.Claim]) :=
   AcH hcp (fun k h0 h1=>(hb5'.block k (by omega)).trans (KB.block k h1)) _
  have HB:Below w.heap.size w (w5.setCell ⟨g,kn,none⟩ (.int .i64 (Em ty.Bits ty.Signed v))):=(BD.trans (hb5'.mono (by omega))).setCell (p:=⟨g,kn,none⟩) hng _
  obtain⟨t0,t1,t2,t3,t4,t5,-⟩:=M2 L0
  obtain⟨d0,d1,d2,d3,d4,d5,g0,g1,g2,g3,g4,g5⟩:=M2 L1
  clear x5 y1 f5 hb5 hb5'
  generalize w5.setCell ⟨g,kn,none⟩ (.int .i64 (Em ty.Bits ty.Signed v))=w6 at *
  go_wp2
  have hres:=MN L1 (.slice (some ⟨g,0,none⟩) e.S.Globals.length gcap) (.slice ac e.S.Chans.length ccap) (.slice ap e.S.Procs.length pcap) (.int .i64 e.S.Last) (.int .i64 e.S.Alone) (.int .i64 e.S.Claim)
  have hT:=Ic (w:=w6) (b:=w.heap.size+1) (.slice (some ⟨g,0,none⟩) e.S.Globals.length gcap) (.slice ac e.S.Chans.length ccap) (.slice ap e.S.Procs.length pcap) (.int .i64 e.S.Last) (.int .i64 e.S.Alone) (.int .i64 e.S.Claim)
  refine DV rfl rfl hres Tryz.underlying35 rfl (by kernel_rfl) rfl ?_
  exact AaM HQ HTY HV HB hT hrw
end Go.Proofs.YtmdcknlpalfhhaaGreatDoor
