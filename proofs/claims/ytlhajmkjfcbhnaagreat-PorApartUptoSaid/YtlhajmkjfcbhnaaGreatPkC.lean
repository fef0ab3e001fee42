/-
  Texts, joined: GdW1, GdW2, GdW3, GdW4, GdW5, GdW6, CkP, CkS, CkA, CkH, CkW, Touch, StClone, ExS, ExA, ExH, ValPlain, TwoPlain, ExP, Scope, ExOne, ExW1, ExW2, ExW3, ExW4, ExW5, EbP, EbS, EcP, VjThaw, VjThawF, VjOwn, EcE, EcA, EcH, EcW1, EcW2, EcW3, EcW4, EcW5, EcW6, EcW7, CoP, CoV, CoW, RfS, RfA, RfH, RfW1, RfW2, RfW3, RfW4, RfW5, EgE, EgA, EgH, VjPubl, EgW1, EcQ, EgV, EgW3, EgU, VjPick, EmA.
-/
import Derived.Test.YtlhajmkjfcbhnaaGreatPkB
import Derived.KernelRfl
import Derived.WalkKit
import Derived.OneCell
import Derived.Deep.QuietTactic
import Derived.BigRegion
import Derived.Deep.RegionLaw
import Derived.Deep.AppendLies
import Derived.Lib.SliceRun
import Derived.Lib.Hide
import Derived.Test.YtlhajmkjfcbhnaaGreatProg
import Derived.WalkSpells
import Derived.WalkLawsBesides
import Derived.BigQuiet
namespace Go.Proofs.YtlhajmkjfcbhnaaGreat
open Go.RowKit
theorem Ap {a b:Bool}(h:a=b):leO [] []/\VV.le (.sc (.bool a)) (.sc (.bool b)):=⟨trivial,VV.le_eq (by rw[h])⟩
theorem Ba {a b:Int}(h:a=b):leO [] []/\VV.le (.sc (.int .i64 a)) (.sc (.int .i64 b)):=⟨trivial,VV.le_eq (by rw[h])⟩
theorem Fb {a b c d:Int}(h:(a,b)=(c,d)):leO [] []/\VV.le (.tup [.sc (.int .i64 a),.sc (.int .i64 b)]) (.tup [.sc (.int .i64 c),.sc (.int .i64 d)]):=by
 simp only[Prod.mk.injEq]at h;exact⟨trivial,VV.le_eq (by rw[h.1,h.2])⟩
theorem J7 {a b c d e f:Int}(h:(a,b,c)=(d,e,f)):leO [] []/\VV.le (.tup [.sc (.int .i64 a),.sc (.int .i64 b),.sc (.int .i64 c)]) (.tup [.sc (.int .i64 d),.sc (.int .i64 e),.sc (.int .i64 f)]):=by
 simp only[Prod.mk.injEq]at h;exact⟨trivial,VV.le_eq (by rw[h.1,h.2.1,h.2.2])⟩
theorem AG {a b:Int}(h:decide (a<b)=true):a<b:=of_decide_eq_true h
theorem AI {a b:Int}(h:decide (a<b)=false):b<=a:=by grind
theorem Ahn {n:Int}(h:Ev.wInt .i64 n):-9223372036854775808<=n/\n<=9223372036854775807:=AhC.1 h
theorem SW (t:D.Type):Al Tryz.prog 138 [] [.agg (Bs t)] [] (Ac (Eb t)):=by
 refine Ag Ai Aj Tryz.func138 (by kernel_rfl) rfl (Af5 _ t) (Ap ?_)
 rw[Bool.eq_iff_iff];simp[Eb];grind
theorem AcH {t:D.Type}(h:Eb t=true):1<=t.Bits/\t.Bits<=32/\(t.Signed=true->t.Bits=16∨t.Bits=32):=by
 unfold Eb at h
 grind
theorem Xk {n:Nat}(h:n<=32):(1:Int)<=2 ^ n/\(2:Int) ^ n<=4294967296:=by
 have h1:(2:Nat) ^ n<=2 ^ 32:=Nat.pow_le_pow_right (by omega) h
 grind
theorem Mw (t:D.Type)(v:Int):Al Tryz.prog 117 [] [.agg (Bs t),Aa v] [] (Ac (Cx t v)):=by
 refine Ag Ai Aj Tryz.func117 (by kernel_rfl) rfl (Afi _ t v) ⟨Eb t,SW t,fun h=>Ap ?_,fun h=>?_⟩
 ·have h':Eb t=false:=by simpa using h
  simp[Cx,h']
 ·have h':Eb t=true:=by simpa using h
  obtain⟨h1,h2,h3⟩:=AcH h'
  have hb:IntKind.i64.bits=64:=rfl
  have hw:IntKind.i64.wrap (t.Bits - 1)=t.Bits - 1:=AL (by omega) (by omega)
  refine⟨fun hs=>?_,fun hs=>?_⟩
  ·rw[hw]
   refine⟨by omega,fun _=>by omega,Ap ?_⟩
   have hp:=Xk (n:=(t.Bits - 1).toNat) (by omega)
   have hm:min (t.Bits - 1).toNat IntKind.i64.bits=(t.Bits - 1).toNat:=by rw[hb];omega
   rw[hm,AL (n:=-1*_) (by omega) (by omega),AL (n:=1*_) (by omega) (by omega)]
   have e1:(-1:Int)*2 ^ (t.Bits - 1).toNat=-(2 ^ (t.Bits - 1).toNat):=by omega
   have e2:(1:Int)*2 ^ (t.Bits - 1).toNat=2 ^ (t.Bits - 1).toNat:=by omega
   rw[e1,e2]
   simp only[Cx,h',hs,cond_true,Bool.true_and,ge_iff_le]
   grind
  ·refine⟨fun _=>by omega,Ap ?_⟩
   have hp:=Xk (n:=t.Bits.toNat) (by omega)
   have hm:min t.Bits.toNat IntKind.i64.bits=t.Bits.toNat:=by rw[hb];omega
   rw[hm,AL (n:=1*_) (by omega) (by omega)]
   have e2:(1:Int)*2 ^ t.Bits.toNat=2 ^ t.Bits.toNat:=by omega
   rw[e2]
   simp only[Cx,h',hs,cond_false,Bool.true_and,ge_iff_le]
   grind
theorem OH {v:D.Var}(hv:Kc v):Al Tryz.prog 146 [] [.agg (BN v)] [] (Aa (CM v)):=by
 have hd:=hv.Dims
 refine Ag Ai Aj Tryz.func146 (by kernel_rfl) rfl (Aaw _ v) ⟨fun h=>Ba ?_,fun h=>?_⟩
 ·unfold CM
  grind
 ·have hb:0<=v.Slot/\v.Slot<=1073741824/\v.Dims.length<=4:=by simp at h;omega
  have e:CM v=Dt (v.Slot+1) v.Dims:=by
   unfold CM
   grind
  rw[e,AL (by omega) (by omega)]
  refine AA Ai Aj (fun g st=>∃ (k:Nat) (n:Int),k<=v.Dims.length/\g=v.Dims.length - k/\0<=n/\n<=1073741825+k*1152921504606846976/\Dt n (v.Dims.drop k)=Dt (v.Slot+1) v.Dims/\st=NM n v k) (by kernel_rfl) (by kernel_rfl)
   ⟨_,Up.of ⟨0,v.Slot+1,Nat.zero_le _,rfl,by omega,by omega,rfl,rfl⟩⟩ ?_
  rintro g st ⟨k,n,hk,rfl,hn0,hn1,hr,rfl⟩
  refine AY.raw (Wi _ n v k _) ⟨fun hlt=>?_,fun hge=>Ba ?_⟩
  ·have hlt':k<v.Dims.length:=by have:=AG hlt;omega
   have hto:(k:Int).toNat=k:=by omega
   rw[hto]
   have hdr:v.Dims.drop k=v.Dims.getD k default::v.Dims.drop (k+1):=by simp_all
   have hw:=hd.2 _ (An (d:=default) hlt')
   generalize v.Dims.getD k default=d at hdr hw ⊢
   have hwl:=Ahn hw.Len
   rw[hdr]at hr
   refine⟨⟨by omega,by omega⟩,fun hy=>Ba ?_,fun hy=>?_⟩
   ·rw[← hr]
    have:GF d=true:=by
     unfold GF
     grind [AL]
    show _=Dt n (d::_)
    unfold Dt;rw[this]<;>rfl
   ·have hl:1<=d.Len:=by grind
    have hwr:IntKind.i64.wrap (d.Len - 1)=d.Len - 1:=AL (by omega) (by omega)
    rw[hwr]at hy ⊢
    have hb2:d.Len - 1<=1073741824/\0<=d.Stride/\d.Stride<=1073741824:=by simp at hy;omega
    have hbad:GF d=false:=by unfold GF;simp;omega
    have hm1:0<=(d.Len - 1)*d.Stride:=Int.mul_nonneg (by omega) hb2.2.1
    have hm2:(d.Len - 1)*d.Stride<=1073741824*1073741824:=Int.mul_le_mul hb2.1 hb2.2.2 hb2.2.1 (by omega)
    rw[AL (n:=(d.Len - 1)*d.Stride) (by omega) (by omega),AL (n:=n+_) (by omega) (by omega),Ak (by omega)]
    refine⟨v.Dims.length - (k+1),by omega,Up.of ⟨k+1,n+(d.Len - 1)*d.Stride,by omega,rfl,by omega,by omega,?_,rfl⟩⟩
    rw[← hr]
    show _=Dt n (d::_)
    conv=>rhs;unfold Dt
    rw[hbad]<;>rfl
  ·have hge':v.Dims.length<=k:=by have:=AI hge;omega
   rw[List.drop_eq_nil_of_le hge']at hr
   rw[← hr]<;>rfl
theorem Og {t:List D.Type}{init:List Int}(hl:t.length<=init.length)(hs:t.length<=1048576):Al Tryz.prog 98 [] [Az true t,Ad true init] [] (Aa (Ex t init)):=by
 refine Ag Ai Aj Tryz.func98 (by kernel_rfl) rfl (ZE _ t init) ?_
 refine AH Ai Aj t.length (fun k=>NB t init k) (fun k=>∀ i,i<k->Cx (t.getD i default) (init.getD i 0)=true) (by kernel_rfl) (by kernel_rfl) (fun i hi=>by omega) ?_
 intro k hk hI J next
 refine AY.raw (Vo _ t init k J) ⟨fun hlt=>?_,fun hge=>Ba ?_⟩
 ·have hlt':k<t.length:=by have:=AG hlt;omega
  refine⟨⟨by omega,by omega⟩,⟨by omega,by omega⟩,Cx (t.getD k default) (init.getD k 0),Mw _ _,fun hy=>Ba ?_,fun hy=>next _ hlt' (fun i hi=>?_) (Up.of ?_)⟩
  ·exact(DQ (f:=fun i=>Cx (t.getD i default) (init.getD i 0)) hI hlt' (by simpa using hy)).symm
  ·grind
  grind [Ak]
 ·have hge':t.length<=k:=by have:=AI hge;omega
  exact(Db (f:=fun i=>Cx (t.getD i default) (init.getD i 0)) fun i hi=>hI i (by omega)).symm
theorem VG {s:D.Shape}(hs:KZ s):Al Tryz.prog 99 [] [.agg (BZ s)] [] (Ac (CF s)):=by
 have hl:=hs.Fields.1
 refine Ag Ai Aj Tryz.func99 (by kernel_rfl) rfl (ZX _ s) ⟨fun h=>Ap ?_,fun h=>?_⟩
 ·symm;rw[Bool.eq_false_iff];intro hc;simp[CF]at hc h;omega
 ·have e:CF s=Cd s.Fields.length fun i=>Eb (s.Fields.getD i default):=by
   unfold CF
   grind
  rw[e]
  refine AH Ai Aj s.Fields.length (fun k=>NE s k) (fun k=>∀ i,i<k->Eb (s.Fields.getD i default)=true) (by kernel_rfl) (by kernel_rfl) (fun i hi=>by omega) ?_
  intro k hk hI J next
  refine AY.raw (VH _ s k J) ⟨fun hlt=>?_,fun hge=>Ap ?_⟩
  ·have hlt':k<s.Fields.length:=by have:=AG hlt;omega
   refine⟨⟨by omega,by omega⟩,Eb (s.Fields.getD k default),SW _,fun hy=>Ap ?_,fun hy=>next _ hlt' (fun i hi=>?_) (Up.of ?_)⟩
   ·grind [BE]
   ·grind
   grind [Ak]
  grind [AI,AK]
theorem I1 (m:D.Model)(n:Int):Al Tryz.prog 144 [] [tpM m,Aa n] [] (Ac (Cu m n)):=by
 refine Ag Ai Aj Tryz.func144 (by kernel_rfl) rfl (Xi _ m n) (Ap ?_)
 rw[Bool.eq_iff_iff];simp[Cu]
theorem U5 {a:Int}{l:List Int}(hl:l.length<=1099511627776):Al Tryz.prog 140 [] [Aa a,Ad false l] [] (Ac (Cc a l)):=by
 refine Ag Ai Aj Tryz.func140 (by kernel_rfl) rfl (Ab9 _ a l) ?_
 refine AH Ai Aj l.length (fun k=>NQ a l k) (fun k=>∀ i,i<k->inP a (l.getD i 0)=true) (by kernel_rfl) (by kernel_rfl) (fun i hi=>by omega) ?_
 intro k hk hI J next
 refine AY.raw (Yb _ a l k J) ⟨fun hlt=>?_,fun hge=>Ap ?_⟩
 ·have hlt':k<l.length:=by have:=AG hlt;omega
  have hto:(k:Int).toNat=k:=by omega
  rw[hto]
  refine⟨⟨by omega,by omega⟩,fun hy=>Ap ?_,fun hy=>next _ hlt' (fun i hi=>?_) (Up.of ?_)⟩
  ·exact(BE (f:=fun i=>inP a (l.getD i 0)) hlt' (by rw[Bool.eq_false_iff];intro hc;simp[inP]at hc hy;omega)).symm
  ·rcases Nat.lt_succ_iff_lt_or_eq.1 hi with h | rfl
   ·exact hI i h
   ·simp[inP]at hy ⊢;omega
  grind [Ak]
 ·have hge':l.length<=k:=by have:=AI hge;omega
  exact(AK.2 fun i hi=>hI i (by omega)).symm
theorem Fs {a:Int}{l:List Int}(hl:l.length<=1099511627776):Al Tryz.prog 140 [] [Aa a,Ad true l] [] (Ac (Cc a l)):=by
 refine Ag Ai Aj Tryz.func140 (by kernel_rfl) rfl (Ya _ a l) ?_
 refine AH Ai Aj l.length (fun k=>Lt a l k) (fun k=>∀ i,i<k->inP a (l.getD i 0)=true) (by kernel_rfl) (by kernel_rfl) (fun i hi=>by omega) ?_
 intro k hk hI J next
 refine AY.raw (U4 _ a l k J) ⟨fun hlt=>?_,fun hge=>Ap ?_⟩
 ·have hlt':k<l.length:=by have:=AG hlt;omega
  have hto:(k:Int).toNat=k:=by omega
  rw[hto]
  refine⟨⟨by omega,by omega⟩,fun hy=>Ap ?_,fun hy=>next _ hlt' (fun i hi=>?_) (Up.of ?_)⟩
  ·exact(BE (f:=fun i=>inP a (l.getD i 0)) hlt' (by rw[Bool.eq_false_iff];intro hc;simp[inP]at hc hy;omega)).symm
  ·rcases Nat.lt_succ_iff_lt_or_eq.1 hi with h | rfl
   ·exact hI i h
   ·simp[inP]at hy ⊢;omega
  grind [Ak]
 ·have hge':l.length<=k:=by have:=AI hge;omega
  exact(AK.2 fun i hi=>hI i (by omega)).symm
theorem MC {a x:Int}:Al Tryz.prog 140 [] [Aa a,.sl false 1 1 fun i=>List.take 1 (List.drop (i*1) [.sc (.int .i64 x)])] [] (Ac (inP a x)):=by
 have h:=U5 (a:=a) (l:=[x]) (by simp)
 have e:Cc a [x]=inP a x:=by simp[Cc,Cd,List.getD]
 rw[e]at h
 refine h.le trivial ⟨VV.le_refl _,VV.le_sl (.inl rfl) fun i hi=>AZ ?_,trivial⟩ trivial (VV.le_refl _)
 obtain rfl:i=0:=by omega
 rfl
theorem bt {b:Bool}{p:Prop}(h:b=true)(k:b=false):p:=by rw[h]at k;cases k
theorem KH {a x:Int}:Al Tryz.prog 140 [] [Aa a,.sl true 1 1 fun i=>List.take 1 (List.drop (i*1) [.sc (.int .i64 x)])] [] (Ac (inP a x)):=by
 have h:=Fs (a:=a) (l:=[x]) (by simp)
 have e:Cc a [x]=inP a x:=by simp[Cc,Cd,List.getD]
 rw[e]at h
 refine h.le trivial ⟨VV.le_refl _,VV.le_sl (.inl rfl) fun i hi=>AZ ?_,trivial⟩ trivial (VV.le_refl _)
 obtain rfl:i=0:=by omega
 rfl
theorem Ez (op:Int):Al Tryz.prog 139 [] [Aa op] [] (Aa (AP op)):=by
 refine Ag Ai Aj Tryz.func139 (by kernel_rfl) rfl (Abo _ op) ?_
 have k0:∀ {p:Prop},(op=1∨op=2∨op=31∨op=32∨op=33∨op=34∨op=35∨op=39)->leO [] []/\VV.le (.sc (.int .i64 0)) (.sc (.int .i64 (AP op:Nat))):=fun h=>Ba (by unfold AP;rw[if_pos h]<;>rfl)
 have kx:¬(op=1∨op=2∨op=31∨op=32∨op=33∨op=34∨op=35∨op=39)->((op==(24:Int))=true->leO [] []/\(VV.sc (.int .i64 3)).le (.sc (.int .i64 (AP op:Nat))))/\((op==(24:Int))=false ->
   ((bif decide (op>=(6:Int)) then decide (op<=(23:Int)) else false)=true->leO [] []/\(VV.sc (.int .i64 2)).le (.sc (.int .i64 (AP op:Nat))))/\((bif decide (op>=(6:Int)) then decide (op<=(23:Int)) else false)=false->leO [] []/\(VV.sc (.int .i64 1)).le (.sc (.int .i64 (AP op:Nat))))):=by
  intro hn
  refine⟨fun h=>Ba ?_,fun h=>⟨fun h2=>Ba ?_,fun h2=>Ba ?_⟩⟩
  ·unfold AP;grind
  ·unfold AP;grind
  ·unfold AP;grind
 refine⟨fun h1=>⟨fun _=>k0 (p:=True) (by simp at h1;omega),fun h=>bt h1 h⟩,fun h1=>⟨fun h2=>⟨fun _=>k0 (p:=True) (by simp at h2;omega),fun h=>bt h2 h⟩,fun h2=>⟨fun h3=>⟨fun _=>k0 (p:=True) (by simp at h3;omega),fun h=>bt h3 h⟩,fun h3=>⟨fun h4=>⟨fun _=>k0 (p:=True) (by simp at h4;omega),fun h=>bt h4 h⟩,fun h4=>⟨fun h5=>⟨fun _=>k0 (p:=True) (by simp at h5;omega),fun h=>bt h5 h⟩,fun h5 =>
  ⟨fun h6=>⟨fun _=>k0 (p:=True) (by simp at h6;omega),fun h=>bt h6 h⟩,fun h6=>⟨fun h7=>⟨fun _=>k0 (p:=True) (by simp at h7;omega),fun h=>bt h7 h⟩,fun h7=>⟨fun h8=>k0 (p:=True) (by simp at h8;omega),fun h8=>kx (by grind)⟩⟩⟩⟩⟩⟩⟩⟩
theorem Zz {m:D.Model}{a:Int}{v:D.Var}(hv:Kc v):Al Tryz.prog 141 [] [tpM m,Aa a,.agg (BN v)] [] (Ac (CT m a v)):=by
 have hl:=hv.Dims.1
 refine Ag Ai Aj Tryz.func141 (by kernel_rfl) rfl (AcD _ m a v) ?_
 have hloop:∀ b:Bool,b=Cd v.Dims.length (fun i=>LX a (v.Dims.getD i default))->Aq (Df Tryz.prog tb Bx Jg true Tryz.f141 [] (Ac b)) [1,1,1,0,1,0] (Ma a v 0):=by
  rintro b rfl
  refine AH Ai Aj v.Dims.length (fun k=>Ma a v k) (fun k=>∀ i,i<k->LX a (v.Dims.getD i default)=true) (by kernel_rfl) (by kernel_rfl) (fun i hi=>by omega) ?_
  intro k hk hI J next
  refine AY.raw (ZA _ a v k J) ⟨fun hlt=>?_,fun hge=>Ap ?_⟩
  ·have hlt':k<v.Dims.length:=by have:=AG hlt;omega
   have hto:(k:Int).toNat=k:=by omega
   rw[hto]
   have hdim:∀ d:D.Dim,LX a d=!(bif bif bif bif !(inP a d.I) then true else decide (d.Len<1) then true else decide (d.Len > 128) then true else decide (d.Stride<0) then true else decide (d.Stride > 128)):=by
    intro d
    unfold LX
    grind
   refine⟨⟨by omega,by omega⟩,inP a (v.Dims.getD k default).I,MC,fun hy=>Ap ?_,fun hy=>next _ hlt' (fun i hi=>?_) (Up.of ?_)⟩
   ·grind [BE]
   ·grind
   grind [Ak]
  grind [AI,AK]
 unfold CT
 generalize Cd v.Dims.length (fun i=>LX a (v.Dims.getD i default))=al at hloop ⊢
 refine⟨fun h=>Ap ?_,fun h=>⟨fun h2=>?_,fun h2=>?_⟩⟩
 ·grind
 all_goals
  have e:(decide (0<=v.Scope)&&decide (v.Scope<=2)&&decide (0<=v.Slot)&&decide (v.Slot<=128)&&decide (v.Dims.length<=4))=true:=by simp at h ⊢;omega
  rw[e,Bool.true_and]
 ·have e2:decide (v.Scope=2)=true:=by simpa using h2
  rw[e2,cond_true]
  refine⟨inP a v.Who,MC,Cu m v.Type_,fun _=>I1 _ _,fun hy=>Ap ?_,fun hy=>hloop _ ?_⟩
  ·grind
  grind
 ·have e2:decide (v.Scope=2)=false:=by simpa using h2
  rw[e2,cond_false]
  refine⟨fun hy=>Ap ?_,fun hy=>hloop _ ?_⟩
  ·grind
  grind
theorem LL {m:D.Model}{a:Int}{args mt:List Int}(ha:a<=m.Exprs.length)(h1:args.length<=1048576)(_:mt.length<=1048576) :
  Al Tryz.prog 142 [] [tpM m,Aa a,Ad true args,Ad true mt] [] (Ac (BX m a args mt)):=by
 refine Ag Ai Aj Tryz.func142 (by kernel_rfl) rfl (UA _ m a args mt) ⟨Cc a args,fun _=>Fs (by omega),fun h=>Ap ?_,fun h=>?_⟩
 ·unfold BX
  grind
 ·have hb:Cc a args=true:=by grind
  have hlen:1<=args.length/\args.length<=8/\mt.length=args.length:=by grind
  have e:BX m a args mt=Cd mt.length fun i=>H9 m (args.getD i 0) (mt.getD i 0):=by
   unfold BX
   rw[hb];simp[hlen]
  rw[e]
  have hin:=EC.1 hb
  refine AH Ai Aj mt.length (fun k=>Jy m args mt k) (fun k=>∀ i,i<k->H9 m (args.getD i 0) (mt.getD i 0)=true) (by kernel_rfl) (by kernel_rfl) (fun i hi=>by omega) ?_
  intro k hk hI J next
  refine AY.raw (Sb _ m args mt k J) ⟨fun hlt=>?_,fun hge=>Ap ?_⟩
  ·have hlt':k<mt.length:=by have:=AG hlt;omega
   have hto:(k:Int).toNat=k:=by omega
   rw[hto]
   have hx:=hin _ (An (d:=(0:Int)) (show k<args.length by omega))
   have hm:H9 m (args.getD k 0) (mt.getD k 0)=!(bif bif decide (mt.getD k 0 < -1) then true else decide (mt.getD k 0 > 1) then true else bif mt.getD k 0==0 then(m.Exprs.getD (args.getD k 0).toNat default).Op != 2 else false):=by
    unfold H9 Ao
    grind
   refine⟨⟨by omega,by omega⟩,fun _=>⟨by omega,by omega⟩,fun _=>⟨by omega,by omega⟩,fun hy=>Ap ?_,fun hy=>next _ hlt' (fun i hi=>?_) (Up.of ?_)⟩
   ·grind [BE]
   ·grind
   grind [Ak]
  grind [AI,AK]
theorem Ui {m:D.Model}{x:D.Expr}(h1:x.Args.length<=1048576):Al Tryz.prog 143 [] [tpM m,.agg (AE x)] [] (Ac (JE m x)):=by
 refine Ag Ai Aj Tryz.func143 (by kernel_rfl) rfl (Xn _ m x) ⟨Cu m x.N,fun _=>I1 _ _,fun h=>Ap ?_,fun h=>?_⟩
 ·unfold JE
  grind
 ·have hb:Cu m x.N=true:=by grind
  have hp:0<=x.N/\x.N<m.Procs.length:=by unfold Cu at hb;simp at hb;omega
  have hlen:0<=x.N/\x.N<1073741824/\1<=x.Args.length:=by grind
  refine⟨⟨by omega,by omega⟩,Cc (EA m x.N).length x.Args,Fs (by omega),Ap ?_⟩
  unfold JE
  rw[hb];simp[hlen]
theorem FI {a op:Int}{i:Nat}{p:Int}:DY a op i p=!(bif bif decide ((i:Int)<(AP op:Nat)) then !(inP a p) else false then true else bif decide ((i:Int)>=(AP op:Nat)) then p != -1 else false):=by
 unfold DY
 grind
theorem AbX {m:D.Model}{a:Int}(h0:0<=a)(ha:a<m.Exprs.length)(hw:GS (Ao m a)):Al Tryz.prog 100 [] [tpM m,Aa a] [] (Ac (CP m a)):=by
 refine Ag Ai Aj Tryz.func100 (by kernel_rfl) rfl (Afl _ m a) ⟨⟨h0,ha⟩,fun h=>Ap ?_,fun h=>?_⟩
 ·symm;rw[Bool.eq_false_iff];intro hc
  unfold CP at hc
  simp only[Bool.and_eq_true,decide_eq_true_eq]at hc
  have h':(bif decide ((Ao m a).Op<1) then true else decide ((Ao m a).Op > 39))=true:=h
  simp at h'
  omega
 ·have hop:1<=(Ao m a).Op/\(Ao m a).Op<=39:=by
   have h':(bif decide ((Ao m a).Op<1) then true else decide ((Ao m a).Op > 39))=false:=h
   simp at h';omega
  have hargs:=hw.Args.1
  have hmt:=hw.Match.1
  have hwv:=hw.V
  generalize hb:CP m a=b
  unfold CP at hb
  simp only at hb
  show Aq _ _ (Ff m a (Ao m a) 0)
  generalize Ao m a=x at hop hargs hmt hwv hb ⊢
  have e:(decide (1<=x.Op)&&decide (x.Op<=39))=true:=by simp;omega
  rw[e,Bool.true_and]at hb
  refine AA Ai Aj (fun g st=>(g=3/\st=Ff m a x 0)∨(g=2/\DY a x.Op 0 x.A=true/\st=Ff m a x 1)∨(g=1/\DY a x.Op 0 x.A=true/\DY a x.Op 1 x.B=true/\st=Ff m a x 2)∨(g=0/\DY a x.Op 0 x.A=true/\DY a x.Op 1 x.B=true/\DY a x.Op 2 x.C=true/\st=Ff m a x 3))
   (by kernel_rfl) (by kernel_rfl) ⟨3,Up.of (.inl ⟨rfl,rfl⟩)⟩ ?_
  rintro g st (⟨rfl,rfl⟩ | ⟨rfl,p0,rfl⟩ | ⟨rfl,p0,p1,rfl⟩ | ⟨rfl,p0,p1,p2,rfl⟩)
  ·refine AY.raw (UQ _ m a x _) ⟨fun _=>⟨⟨by omega,by omega⟩,_,Ez _,_,fun _=>KH,_,fun _=>Ez _,fun hy=>Ap ?_,fun hy=>⟨2,by omega,Up.of (.inr (.inl ⟨rfl,?_,?_⟩))⟩⟩,fun h=>by cases h⟩
   ·have hp:DY a x.Op 0 x.A=false:=by rw[FI];exact congrArg (!·) hy
    rw[← hb,hp]<;>rfl
   ·rw[FI];exact congrArg (!·) hy
   grind [AL]
  ·refine AY.raw (UP _ m a x _) ⟨fun _=>⟨⟨by omega,by omega⟩,_,Ez _,_,fun _=>KH,_,fun _=>Ez _,fun hy=>Ap ?_,fun hy=>⟨1,by omega,Up.of (.inr (.inr (.inl ⟨rfl,p0,?_,?_⟩)))⟩⟩,fun h=>by cases h⟩
   ·have hp:DY a x.Op 1 x.B=false:=by rw[FI];exact congrArg (!·) hy
    rw[← hb,p0,hp]<;>rfl
   ·rw[FI];exact congrArg (!·) hy
   grind [AL]
  ·refine AY.raw (UO _ m a x _) ⟨fun _=>⟨⟨by omega,by omega⟩,_,Ez _,_,fun _=>KH,_,fun _=>Ez _,fun hy=>Ap ?_,fun hy=>⟨0,by omega,Up.of (.inr (.inr (.inr ⟨rfl,p0,p1,?_,?_⟩)))⟩⟩,fun h=>by cases h⟩
   ·have hp:DY a x.Op 2 x.C=false:=by rw[FI];exact congrArg (!·) hy
    grind
   ·rw[FI];exact congrArg (!·) hy
   grind [AL]
  ·rw[p0,p1,p2]at hb
   simp only[Bool.and_self,Bool.true_and]at hb
   subst hb
   refine AY.raw (UN _ m a x _) ⟨fun h=>(by cases h),fun _=>⟨fun h1=>⟨_,Mw ⟨32,true⟩ _,Ap ?_⟩,fun h1=>⟨fun h2=>⟨_,Zz hwv,Ap ?_⟩,fun h2=>⟨fun h3=>⟨_,LL (by omega) hargs hmt,Ap ?_⟩,fun h3=>⟨fun h4=>⟨_,Ui hargs,Ap ?_⟩,fun h4 =>
    ⟨fun h5=>⟨Cu m x.N,fun _=>I1 _ _,fun hy=>?_,Cc a x.Args,fun _=>Fs (by omega),Ap ?_⟩,fun h5=>Ap ?_⟩⟩⟩⟩⟩⟩
   ·grind
   ·grind
   ·grind
   ·grind
   ·have hb:Cu m x.N=true:=by grind
    unfold Cu at hb;simp at hb;omega
   ·grind
   grind
theorem Bb {α:Type}{l:List α}{k:Nat}{d:α}(h:k<l.length):l.drop k=l.getD k d::l.drop (k+1):=by simp_all
theorem CU {α:Type}{l:List α}{k:Nat}{d:α}(h:k<l.length):l.take (k+1)=l.take k++[l.getD k d]:=by simp_all
theorem Ahb {α:Type}{i n:Nat}{a b:α}(h:i<n):(bif Nat.blt i n then a else b)=a:=by
 have hb:Nat.blt i n=true:=Nat.ble_eq_true_of_le h
 rw[hb,cond_true]
theorem Ahc {α:Type}{i n:Nat}{a b:α}(h:n<=i):(bif Nat.blt i n then a else b)=b:=by
 have hb:Nat.blt i n=false:=by
  cases hq:Nat.blt i n with
  | true=>have:=Nat.le_of_ble_eq_true hq;omega
  | false=>rfl
 rw[hb,cond_false]
theorem Bz {α:Type}{f:α->List VV}{d:α}{l r:List α}{F G:Nat->List VV}(h1:∀ i,i<l.length->F i=f (l.getD i d))(h2:∀ i,i<r.length->G i=f (r.getD i d)){i:Nat}(hi:i<(l++r).length) :
  (bif i.blt l.length then F i else G (i - l.length))=f ((l++r).getD i d):=by
 by_cases hl:i<l.length
 ·simp_all [Ahb,List.getD_eq_getElem?_getD]
 ·rw[Ahc (by omega),h2 _ (by simp at hi;omega)]
  grind
theorem EV {x:Int}:∀ i,i<[x].length->(fun i=>List.take 1 (List.drop (i*1) [VV.sc (.int .i64 x)])) i=(fun n=>[Aa n]) ([x].getD i 0):=by
 intro i hi
 obtain rfl:i=0:=by simpa using hi
 rfl
theorem Z1 {c:Ctx}{rel:List Nat}{l:List (Nat × VV)}{g n sz:Nat}{F G:Nat->List VV}(h:∀ i,i<n->F i=G i)(k:Aq c rel (Av l [.arr true g n sz G])):Aq c rel (Av l [.arr true g n sz F]) :=
 Aq.le (hs:=[.arr true g n sz F]) (hs':=[.arr true g n sz G]) (AU _) ⟨Ob.le_arr fun i hi=>AZ (h i hi),trivial⟩ k
theorem P6 {l:D.Loc}(h1:l.Esc.length<=1048576):Al Tryz.prog 102 [] [.agg (Bf l)] [] (AW true (Bw l)):=by
 refine Ag Ai Aj Tryz.func102 (by kernel_rfl) rfl (Acu _ l) ⟨by omega,fun i hi=>rfl,trivial,?_⟩
 have e:1+l.Esc.length=(Bw l).length:=by simp[Bw];omega
 rw[e]
 refine VV.le_sl (.inl rfl) fun i hi=>AZ ?_
 refine Bz (l:=[l.Out]) (r:=l.Esc) (f:=fun w=>[As true w]) (d:=[]) (F:=fun i=>List.take 1 (List.drop (i*1) [As true l.Out])) (G:=fun i=>[As true (l.Esc.getD i [])]) (fun i hi=>?_) (fun i hi=>rfl) hi
 grind
theorem XQ {p:D.Proc}(hp:Fw p):Al Tryz.prog 59 [] [.agg (AO p)] [] (Ac (Eg p)):=by
 have h1:=hp.Frame.1
 refine Ag Ai Aj Tryz.func59 (by kernel_rfl) rfl (AbP _ p) ⟨Ex p.Frame p.Init,fun h=>Og ?_ h1,Ap ?_⟩
 ·simp at h;omega
 ·rw[Bool.eq_iff_iff];simp[Eg];omega
theorem Sq {p:D.Proc}(hp:Fw p):Al Tryz.prog 61 [] [.agg (AO p)] [] (Ac (Ep p)):=by
 have h1:=hp.Locs.1
 refine Ag Ai Aj Tryz.func61 (by kernel_rfl) rfl (UZ _ p) ⟨fun h=>Ap ?_,fun h=>?_⟩
 ·symm;rw[Bool.eq_false_iff];intro hc;simp[Ep,-List.length_eq_zero_iff]at hc h;omega
 ·have e:Ep p=Cd p.Locs.length fun i=>Ho (p.Locs.getD i default):=by
   unfold Ep
   grind
  rw[e]
  refine AH Ai Aj p.Locs.length (fun k=>Jz p k) (fun k=>∀ i,i<k->Ho (p.Locs.getD i default)=true) (by kernel_rfl) (by kernel_rfl) (fun i hi=>by omega) ?_
  intro k hk hI J next
  refine AY.raw (Sr _ p k J) ⟨fun hlt=>?_,fun hge=>Ap ?_⟩
  ·have hlt':k<p.Locs.length:=by have:=AG hlt;omega
   have hto:(k:Int).toNat=k:=by omega
   rw[hto]
   have hpl:∀ l:D.Loc,Ho l=!(bif bif decide ((l.Esc.length:Int) > 0) then true else l.Atomic then true else l.Dstep):=by
    intro l
    unfold Ho
    grind
   refine⟨⟨by omega,by omega⟩,fun hy=>Ap ?_,fun hy=>next _ hlt' (fun i hi=>?_) (Up.of ?_)⟩
   ·grind [BE]
   ·grind
   grind [Ak]
  grind [AI,AK]
theorem XI {p:D.Proc}(hp:Fw p):Al Tryz.prog 60 [] [.agg (AO p)] [] (Ac (Ef p)):=by
 have h1:=hp.Locs.1
 refine Ag Ai Aj Tryz.func60 (by kernel_rfl) rfl (AbN _ p) ⟨fun h=>Ap ?_,fun h=>?_⟩
 ·symm;rw[Bool.eq_false_iff];intro hc;simp[Ef,inP]at hc h;omega
 ·have e:Ef p=FQ p.Locs.length p.Final 0 0 p.Locs:=by
   unfold Ef
   have:(decide (1<=p.Locs.length)&&decide (p.Locs.length<=256)&&inP p.Locs.length p.Start&&inP p.Locs.length p.Final)=true:=by simp[inP]at h ⊢;omega
   rw[this,Bool.true_and]
  rw[e]
  generalize hb:FQ p.Locs.length p.Final 0 0 p.Locs=b
  refine AA Ai Aj (fun g st=>∃ (k many:Nat),k<=p.Locs.length/\g=p.Locs.length - k/\many<=1024/\FQ p.Locs.length p.Final many k (p.Locs.drop k)=b/\st=Lp p many k) (by kernel_rfl) (by kernel_rfl) ⟨_,Up.of ⟨0,0,Nat.zero_le _,rfl,by omega,hb,rfl⟩⟩ ?_
  rintro g st ⟨k,many,hk,rfl,hm,hr,rfl⟩
  refine AY.raw (XL _ p many k _) ⟨fun hlt=>?_,fun hge=>Ap ?_⟩
  ·have hlt':k<p.Locs.length:=by have:=AG hlt;omega
   have hto:(k:Int).toNat=k:=by omega
   rw[hto]
   have hwl:=hp.Locs.2 _ (An (d:=default) hlt')
   rw[Bb (d:=default) hlt']at hr
   generalize p.Locs.getD k default=l at hwl hr ⊢
   have ho:=hwl.Out.1
   have hes:=hwl.Esc.1
   have hbad:I6 p.Final k l=bif bif decide ((l.Esc.length:Int) > 8) then true else bif l.Dstep then l.Atomic else false then true else bif (k:Int)==p.Final then decide (IntKind.i64.wrap ((l.Out.length:Int)+(l.Esc.length:Int)) > 0) else false:=by
    rw[AL (by omega) (by omega)]
    unfold I6
    grind
   rw[← hbad]
   unfold FQ at hr
   refine⟨⟨by omega,by omega⟩,fun hy=>Ap ?_,fun hy=>?_⟩
   ·grind
   ·rw[hy,cond_false]at hr
    refine⟨Bw l,P6 hes,?_⟩
    have hwsl:(Bw l).length<=1048577:=by simp[Bw];omega
    have hwse:∀ w∈Bw l,w.length<=1048576:=by
     intro w hw
     rcases List.mem_cons.1 hw with rfl | hw
     ·exact ho
     ·exact(hwl.Esc.2 w hw).1
    generalize Bw l=ws at hr hwsl hwse ⊢
    generalize hwo:Gg p.Locs.length many 0 ws=wo at hr
    refine AA Ai Aj (fun g st=>∃ (j mn:Nat),j<=ws.length/\g=ws.length - j/\mn<=1024/\Gg p.Locs.length mn j (ws.drop j)=wo/\st=Lo p mn k ws j) (by kernel_rfl) (by kernel_rfl) ⟨_,Up.of ⟨0,many,Nat.zero_le _,rfl,hm,hwo,rfl⟩⟩ ?_
    rintro g st ⟨j,mn,hj,rfl,hmn,hq,rfl⟩
    refine AY.raw (XK _ p mn k ws j _ _) ⟨fun hlt2=>?_,fun hge2=>?_⟩
    ·have hlt2':j<ws.length:=by have:=AG hlt2;omega
     have hto2:(j:Int).toNat=j:=by omega
     rw[hto2]
     have hwle:=hwse _ (An (d:=[]) hlt2')
     rw[Bb (d:=[]) hlt2']at hq
     generalize ws.getD j []=w at hwle hq ⊢
     unfold Gg at hq
     rw[AL (n:=(mn:Int)+_) (by omega) (by omega)]
     have e1:(bif decide ((j:Int) > 0) then(w.length:Int)==0 else false)=(decide (0<j)&&decide (w.length=0)):=by
      rw[Bool.eq_iff_iff];simp
     have e2:decide ((mn:Int)+(w.length:Int) > 1024)=decide (1024<mn+w.length):=by grind
     rw[e1,e2]
     refine⟨⟨by omega,by omega⟩,fun hy1=>Ap ?_,fun hy1=>⟨fun hy2=>Ap ?_,fun hy2=>?_⟩⟩
     ·grind
     ·grind
     ·rw[hy1,cond_false,hy2,cond_false]at hq
      have hmn2:mn+w.length<=1024:=by simpa using hy2
      rw[show(mn:Int)+(w.length:Int)=((mn+w.length:Nat):Int) by omega]
      refine AH Ai Aj w.length (fun h=>Ln p (mn+w.length:Nat) k ws j w h) (fun h=>∀ i,i<h->inP p.Locs.length (w.getD i default).To=true) (by kernel_rfl) (by kernel_rfl) (fun i hi=>by omega) ?_
      intro h3 hh3 hI J3 next
      refine AY.raw (XJ _ p _ k ws j w h3 _ _ J3) ⟨fun hlt3=>?_,fun hge3=>?_⟩
      ·have hlt3':h3<w.length:=by have:=AG hlt3;omega
       have hto3:(h3:Int).toNat=h3:=by omega
       rw[hto3]
       have hin:inP p.Locs.length (w.getD h3 default).To=!(bif decide ((w.getD h3 default).To<0) then true else decide ((w.getD h3 default).To>=(p.Locs.length:Int))):=by
        unfold inP;rw[Bool.eq_iff_iff];simp
       refine⟨⟨by omega,by omega⟩,fun hy=>Ap ?_,fun hy=>next _ hlt3' (fun i hi=>?_) (Up.of ?_)⟩
       ·have:=BE (n:=w.length) (f:=fun i=>inP p.Locs.length (w.getD i default).To) hlt3' (by grind)
        grind
       ·grind
       grind [Ak]
      ·have hge3':w.length<=h3:=by have:=AI hge3;omega
       have:=(AK (n:=w.length) (f:=fun i=>inP p.Locs.length (w.getD i default).To)).2 fun i hi=>hI i (by omega)
       rw[this,cond_true]at hq
       rw[Ak (by omega)]
       exact⟨ws.length - (j+1),by omega,Up.of (by grind)⟩
    ·have hge2':ws.length<=j:=by have:=AI hge2;omega
     rw[List.drop_eq_nil_of_le hge2']at hq
     unfold Gg at hq
     rw[← hq]at hr
     rw[Ak (by omega)]
     exact⟨p.Locs.length - (k+1),by omega,Up.of ⟨k+1,mn,by omega,rfl,hmn,hr,rfl⟩⟩
  ·have hge':p.Locs.length<=k:=by have:=AI hge;omega
   rw[List.drop_eq_nil_of_le hge']at hr
   exact hr
theorem Lb (t:ByteArray):(t.toList==(⟨#[]⟩:ByteArray).toList)=decide (t.size=0):=by
 rw[ByteArray.toList_eq,ByteArray.toList_eq,Bool.eq_iff_iff,beq_iff_eq,decide_eq_true_eq]
 show t.data.toList=[] ↔ t.data.size=0
 rw[← Array.length_toList,List.length_eq_zero_iff]
theorem X2 {s:D.Stmt}{u v x:Bool}(h1:s.Args.length<=1048576)(h2:s.Match.length<=1048576):Al Tryz.prog 160 [] [.agg (Ar s),Ac u,Ac v,Ac x] [] (Ac (Di s u v x)):=by
 refine Ag Ai Aj Tryz.func160 (by kernel_rfl) rfl (Ab3 _ s u v x) (Ap ?_)
 rw[AL (by omega) (by omega),Lb]
 unfold Di
 grind
theorem Fm (m:D.Model)(a:Int):Al Tryz.prog 159 [] [tpM m,Aa a] [] (Ac (CX m a)) :=
 Ag Ai Aj Tryz.func159 (by kernel_rfl) rfl (Abm _ m a) ⟨inP m.Exprs.length a,MC,Ap rfl⟩
theorem IR (m:D.Model)(a:Int):Al Tryz.prog 161 [] [tpM m,Aa a] [] (Ac (BF m a)):=by
 have hin:∀ y:Bool,y=CX m a->y=true->0<=a/\a<m.Exprs.length:=fun y hy h=>B1.1 (by rw[hy]at h;exact h)
 refine Ag Ai Aj Tryz.func161 (by kernel_rfl) rfl (Vs _ m a) ⟨CX m a,Fm m a,fun h=>hin _ rfl (by simpa using h),fun h=>hin _ rfl ?_,Ap ?_⟩
 ·grind
 ·unfold BF Ao
  grind
theorem Vt {m:D.Model}{s:D.Stmt}(h1:s.Args.length<=1048576)(h2:s.Match.length<=1048576):Al Tryz.prog 162 [] [tpM m,.agg (Ar s)] [] (Ac (Fd m s)):=by
 refine Ag Ai Aj Tryz.func162 (by kernel_rfl) rfl (ZK _ m s) ⟨BX m m.Exprs.length s.Args s.Match,LL (Int.le_refl _) h1 h2,fun h=>Ap ?_,fun h=>?_⟩
 ·have h':BX m m.Exprs.length s.Args s.Match=false:=by simpa using h
  unfold Fd;rw[h',Bool.false_and]
 ·have h':BX m m.Exprs.length s.Args s.Match=true:=by simpa using h
  have hlen:s.Match.length=s.Args.length:=by
   unfold BX at h'
   grind
  have e:Fd m s=Cd s.Match.length fun i=>!decide (s.Match.getD i 0=0)||BF m (s.Args.getD i 0):=by unfold Fd;rw[h',Bool.true_and]
  rw[e]
  refine AH Ai Aj s.Match.length (fun k=>ND m s k) (fun k=>∀ i,i<k->(!decide (s.Match.getD i 0=0)||BF m (s.Args.getD i 0))=true) (by kernel_rfl) (by kernel_rfl) (fun i hi=>by omega) ?_
  intro k hk hI J next
  refine AY.raw (Vu _ m s k J) ⟨fun hlt=>?_,fun hge=>Ap ?_⟩
  ·have hlt':k<s.Match.length:=by have:=AG hlt;omega
   have hto:(k:Int).toNat=k:=by omega
   rw[hto]
   have hm:(!decide (s.Match.getD k 0=0)||BF m (s.Args.getD k 0))=!(bif s.Match.getD k 0==0 then !(BF m (s.Args.getD k 0)) else false):=by grind
   refine⟨⟨by omega,by omega⟩,fun _=>⟨by omega,by omega⟩,BF m (s.Args.getD k 0),fun _=>IR _ _,fun hy=>Ap ?_,fun hy=>next _ hlt' (fun i hi=>?_) (Up.of ?_)⟩
   ·grind [BE]
   ·grind
   grind [Ak]
  grind [AI,AK]
theorem Ov {m:D.Model}{i:Int}{v:D.Var}(h1:v.Scope=1->0<=i/\i<m.Procs.length)(h2:v.Scope≠0->v.Scope≠1->0<=v.Type_/\v.Type_<m.Procs.length):Al Tryz.prog 147 [] [tpM m,Aa i,.agg (BN v)] [] (Aa (EQ m i v)):=by
 refine Ag Ai Aj Tryz.func147 (by kernel_rfl) rfl (ZS _ m i v) ⟨fun h=>Ba ?_,fun h=>⟨fun k=>⟨h1 (by simpa using k),Ba ?_⟩,fun k=>⟨h2 (by simpa using h) (by simpa using k),Ba ?_⟩⟩⟩
 ·unfold EQ;grind
 ·unfold EQ;grind
 ·unfold EQ;grind
def leS (x y:VV):Prop:=∀ (w:World) (E:A0) (m:Option Phi) (v:Value),(∀ k,E.br k->E.fz k)->V w E m x v->V w E m y v
theorem E3 (x:VV):leS x x:=fun _ _ _ _ _ h=>h
theorem Se {n sz:Nat}{f:Nat->List VV}:leS (.sl true n sz f) (.sl false n sz f):=by
 intro w E m v hE h
 obtain⟨a,cap,rfl,h1,h2,h3⟩:=V.sl_inv h
 refine V.sl_mk h1 h2 fun hp=>?_
 obtain⟨b,off,rfl,hb,hn,hl,u,hc,hv⟩:=h3 hp
 exact⟨b,off,rfl,hb,fun hbr=>hn (hE b hbr),hl,u,hc,fun i j x hi hx=>(hv i j x hi hx).less (fun _ h=>h) fun _ _=>trivial⟩
theorem Al.frz {P:Program}{f:FuncId}{hs hs':List Ob}{xs ys:List VV}{r:VV}(h:Al P f hs xs hs' r)(hl:ys.length=xs.length)(hle:∀ (j:Nat) x y,xs[j]?=some x->ys[j]?=some y->leS y x):Al P f hs ys hs' r:=by
 refine⟨h.callable,fun w E φ vs hz hH hφ hs0=>h.call w E φ vs hz hH hφ ⟨hs0.1.trans hl,fun j x hx=>?_⟩⟩
 have hj:j<ys.length:=by grind
 exact hle j x _ hx (List.getElem?_eq_getElem hj) _ _ _ _ (fun k hk=>hk.imp (hH.sub k) fun h=>h) (hs0.2 j _ (List.getElem?_eq_getElem hj))
theorem ieq (a b:Int):(a==b)=decide (a=b):=by grind
theorem BD (a b:Bool):(bif a then b else false)=(a&&b):=by cases a<;>rfl
theorem Cn (a b:Bool):(bif a then true else b)=(a||b):=by cases a<;>rfl
theorem nge (n k:Nat):decide ((n:Int)>=k)=decide (k<=n):=by grind
theorem nle (n k:Nat):decide ((n:Int)<=k)=decide (n<=k):=by grind
theorem ge1 (n:Nat):decide ((n:Int)>=1)=decide (1<=n):=nge n 1
theorem le8 (n:Nat):decide ((n:Int)<=8)=decide (n<=8):=nle n 8
theorem Ai6 (n:Nat):decide ((n:Int)<=256)=decide (n<=256):=nle n 256
theorem Ai4 (n:Nat):decide ((n:Int)=0)=decide (n=0):=by grind
structure MT (s:D.Stmt):Prop where
 a:s.Args.length<=1048576
 m:s.Match.length<=1048576
theorem Oo {m:D.Model}{s:D.Stmt}(hs:MT s):Al Tryz.prog 145 [] [tpM m,.agg (Ar s)] [] (Ac (Au m s)):=by
 have ha:=hs.a
 have hb:=hs.m
 have em:∀ u v x:Bool,Al Tryz.prog 160 [] [.agg (Ar s),Ac u,Ac v,Ac x] [] (Ac (Di s u v x)):=fun u v x=>X2 ha hb
 have n1:∀ x:Bool,(bif x then s.B==(-1:Int) else false)=(x&&decide (s.B=-1)):=fun x=>by rw[ieq,BD]
 have hkn:∀ {k:Int},(s.Kind==k)=true->s.Kind=k:=fun h=>by simpa using h
 have hkf:∀ {k:Int},(s.Kind==k)=false->s.Kind≠k:=fun h=>by simpa using h
 refine Ag Ai Aj Tryz.func145 (by kernel_rfl) rfl (PS _ m s) ?_
 have t13:s.Kind=1∨s.Kind=3->Au m s=(CX m s.A&&decide (s.B=-1)&&Di s true true true):=fun h=>by unfold Au;rw[if_pos h]
 have t2:s.Kind=2->Au m s=(BF m s.A&&CX m s.B&&Di s true true true):=fun h=>by unfold Au;grind
 have t4:s.Kind=4->Au m s=(decide (s.A=-1)&&decide (s.B=-1)&&Cc m.Exprs.length s.Args&&decide (s.Match.length=0)&&decide (s.Text.size<=256)&&decide (s.N=0)):=fun h=>by unfold Au;grind
 have t5:s.Kind=5->Au m s=(CX m s.A&&decide (s.B=-1)&&decide (1<=s.Args.length)&&decide (s.Args.length<=8)&&Cc m.Exprs.length s.Args&&decide (s.Match.length=0)&&(decide (s.N=0)||decide (s.N=1))&&decide (s.Text.size=0)):=fun h=>by unfold Au;grind
 have t6:s.Kind=6->Au m s=(CX m s.A&&decide (s.B=-1)&&Fd m s&&decide (0<=s.N)&&decide (s.N<=3)&&decide (s.Text.size=0)):=fun h=>by unfold Au;grind
 have t7:s.Kind=7∨s.Kind=8->Au m s=(decide (s.A=-1)&&decide (s.B=-1)&&Di s true true true):=fun h=>by unfold Au;grind
 have t9:s.Kind=9->Au m s=(BF m s.A&&decide (s.B=-1)&&decide (0<=s.N)&&decide (s.N<m.Shapes.length)&&Di s true false true):=fun h=>by unfold Au;grind
 have tx:¬(s.Kind=1∨s.Kind=3)->s.Kind≠2->s.Kind≠4->s.Kind≠5->s.Kind≠6->¬(s.Kind=7∨s.Kind=8)->s.Kind≠9->Au m s=false:=fun h1 h2 h3 h4 h5 h6 h7=>by unfold Au;grind
 generalize Au m s=b at t13 t2 t4 t5 t6 t7 t9 tx ⊢
 exact⟨fun h1=>⟨fun _=>⟨_,Fm m s.A,_,fun _=>em true true true,Ap (by grind)⟩,fun h=>bt h1 h⟩,fun h1=>⟨fun h3=>⟨_,Fm m s.A,_,fun _=>em true true true,Ap (by grind)⟩,fun h3=>⟨fun h2=>⟨_,IR m s.A,_,fun _=>Fm m s.B,_,fun _=>em true true true,Ap (by grind)⟩,fun h2=>⟨fun h4=>⟨_,fun _=>Fs (by omega),Ap (by simp_all [ieq,Ai6])⟩,fun h4=>⟨fun h5=>⟨_,Fm m s.A,_,fun _=>Fs (by omega),Ap (by rw[t5 (hkn h5)];simp only[ieq,BD,Cn,Ai4,Lb,le8,ge1])⟩,fun h5=>⟨fun h6=>⟨_,Fm m s.A,_,fun _=>Vt ha hb,Ap (by rw[t6 (hkn h6)];simp only[ieq,BD,Lb,ge_iff_le])⟩,fun h6=>⟨fun h7=>⟨fun _=>⟨_,fun _=>em true true true,Ap (by grind)⟩,fun h=>bt h7 h⟩,fun h7=>⟨fun h8=>⟨_,fun _=>em true true true,Ap (by grind)⟩,fun h8=>⟨fun h9=>⟨_,IR m s.A,_,fun _=>em true false true,Ap (by grind)⟩,fun h9=>Ap (by grind)⟩⟩⟩⟩⟩⟩⟩⟩⟩
theorem Hw {x:D.Expr}(h1:x.Args.length<=1048576)(h2:x.V.Dims.length<=1048576):Al Tryz.prog 101 [] [.agg (AE x)] [] (Ad true (Bp x)):=by
 have hp3:=O0 x.Op
 have hP:([x.A,x.B,x.C].take (AP x.Op)).length=AP x.Op:=by simp;omega
 have hrow:∀ i,i<([x.A,x.B,x.C].take (AP x.Op)).length->List.take 1 (List.drop (i*1) [VV.sc (.int .i64 x.A),.sc (.int .i64 x.B),.sc (.int .i64 x.C)])=[Aa (([x.A,x.B,x.C].take (AP x.Op)).getD i 0)]:=by
  intro i hi
  rw[hP]at hi
  have:([x.A,x.B,x.C].take (AP x.Op)).getD i 0=[x.A,x.B,x.C].getD i 0:=by grind
  rw[this]
  rcases(show i=0∨i=1∨i=2 by omega) with rfl | rfl | rfl<;>rfl
 have hto:((AP x.Op:Nat):Int).toNat=AP x.Op:=by omega
 have loop:∀ (L:List Int),L.length<=2097152->L++x.V.Dims.map D.Dim.I=Bp x->Aq (Df Tryz.prog tb Bx GO true Tryz.f101 [] (Ad true (Bp x))) [1,1,1,0,1,0,1,1,0] (VD x L 0):=by
  intro L hL hR
  generalize Bp x=R at hR ⊢
  refine AH Ai Aj x.V.Dims.length (fun k=>VD x (L++(x.V.Dims.take k).map D.Dim.I) k) (fun _=>True) (by kernel_rfl) (by kernel_rfl) trivial ?_ |> fun h=>by simpa using h
  intro k hk _ J next
  have hlen:(L++(x.V.Dims.take k).map D.Dim.I).length=L.length+k:=by simp;omega
  refine AY.raw (AbM _ x _ k J) ⟨fun hlt=>?_,fun hge=>⟨trivial,?_⟩⟩
  ·have hlt':k<x.V.Dims.length:=by have:=AG hlt;omega
   have hto:(k:Int).toNat=k:=by omega
   rw[hto]
   refine⟨⟨by omega,by omega⟩,by rw[hlen];omega,next _ hlt' trivial ?_⟩
   have hpush:(x.V.Dims.take (k+1)).map D.Dim.I=(x.V.Dims.take k).map D.Dim.I++[(x.V.Dims.getD k default).I]:=by grind [CU]
   have e:L++(x.V.Dims.take (k+1)).map D.Dim.I=(L++(x.V.Dims.take k).map D.Dim.I)++[(x.V.Dims.getD k default).I]:=by rw[hpush,List.append_assoc]
   rw[e,Ak (by omega)]
   generalize L++(x.V.Dims.take k).map D.Dim.I=M
   generalize (x.V.Dims.getD k default).I=z
   refine Up.mk (l':=[(3,.ow 0 0 (M++[z]).length),(45,BK true x.V.Dims),(46,Aa x.V.Dims.length),(47,Aa ((k+1:Nat):Int))]) (hs':=[.arr true 0 (M++[z]).length 1 (AJ (M++[z]))]) ?_ ?_ rfl
   ·grind [AU]
   ·rw[show M.length+1=(M++[z]).length by simp]
    exact⟨Ob.le_arr fun i hi=>AZ (Bz (f:=fun n=>[Aa n]) (d:=0) (l:=M) (r:=[z]) (F:=fun i=>[.sc (.int .i64 (M.getD i 0))]) (fun i hi=>rfl) EV hi),trivial⟩
  grind [AI,List.take_of_length_le,VV.le_refl]
 refine Ag Ai Aj Tryz.func101 (by kernel_rfl) rfl (Afa _ x) ⟨(AP x.Op:Nat),Ez _,?_⟩
 rw[hto]
 have hpp:AP x.Op=([x.A,x.B,x.C].take (AP x.Op)).length:=hP.symm
 generalize hLp:[x.A,x.B,x.C].take (AP x.Op)=P at hrow hpp loop
 have hheld:Bp x=P++((if x.Op=30∨x.Op=39 then x.Args else[])++(if x.Op=2 then(if x.V.Scope=2 then[x.V.Who] else[])++x.V.Dims.map D.Dim.I else[])):=by unfold Bp;rw[hLp]
 generalize Bp x=R at hheld loop ⊢
 rw[hpp]at hp3 ⊢
 refine⟨⟨by omega,by omega⟩,by omega,fun h=>⟨by omega,fun i hi=>rfl,fun k=>?_,fun k=>⟨trivial,?_⟩⟩,fun h=>⟨fun k=>⟨fun q=>⟨by omega,?_⟩,fun q=>?_⟩,fun k=>⟨trivial,?_⟩⟩⟩
 ·simp at h k;omega
 ·have e:R=P++x.Args:=by grind
  subst e
  rw[show P.length+x.Args.length=(P++x.Args).length by simp]
  exact VV.le_sl (.inl rfl) fun i hi=>AZ (Bz (f:=fun n=>[Aa n]) (d:=0) (l:=P) (r:=x.Args) (G:=fun j=>[.sc (.int .i64 (x.Args.getD j 0))]) hrow (fun i hi=>rfl) hi)
 ·have h':¬(x.Op=30∨x.Op=39):=by simpa using h
  have e:(P++[x.V.Who])++x.V.Dims.map D.Dim.I=R:=by grind
  refine Aq.le (l':=[(3,.ow 0 0 (P++[x.V.Who]).length),(45,BK true x.V.Dims),(46,Aa x.V.Dims.length),(47,Aa 0)]) (hs':=[.arr true 0 (P++[x.V.Who]).length 1 (AJ (P++[x.V.Who]))]) ?_ ?_ (loop _ (by simp;omega) e)
  ·grind [AU]
  ·rw[show P.length+1=(P++[x.V.Who]).length by simp]
   exact⟨Ob.le_arr fun i hi=>AZ (Bz (f:=fun n=>[Aa n]) (d:=0) (l:=P) (r:=[x.V.Who]) hrow EV hi),trivial⟩
 ·have h':¬(x.Op=30∨x.Op=39):=by simpa using h
  have e:P++x.V.Dims.map D.Dim.I=R:=by grind
  exact Z1 (G:=AJ P) (fun i hi=>hrow i hi) (loop _ (by omega) e)
 ·have h':¬(x.Op=30∨x.Op=39):=by simpa using h
  have e:R=P:=by grind
  subst e
  exact VV.le_sl (.inl rfl) fun i hi=>AZ (hrow i hi)
structure Es (m:D.Model):Prop where
 wf:A2 m
 ex:∀ k:Nat,k<m.Exprs.length->CP m k=true
def InE (m:D.Model)(l:List Int):Prop:=∀ x∈l,0<=x/\x<m.Exprs.length
theorem LW {m:D.Model}{k:Int}(h0:0<=k)(h:k<m.Exprs.length):Ao m k∈m.Exprs:=An (by omega)
theorem Es.at {m:D.Model}(h:Es m){k:Int}(h0:0<=k)(hk:k<m.Exprs.length):CP m k=true:=by
 have:=h.ex k.toNat (by omega)
 grind
theorem Es.held {m:D.Model}(h:Es m){k:Int}(h0:0<=k)(hk:k<m.Exprs.length):InE m (Bp (Ao m k)):=fun x hx=>by
 have:=LR (h.at h0 hk) x hx;omega
theorem Es.small {m:D.Model}(h:Es m):∀ x∈m.Exprs,x.Args.length<=1048576/\x.V.Dims.length<=1048576:=fun x hx =>
 ⟨(h.wf.Exprs.2 x hx).Args.1,(h.wf.Exprs.2 x hx).V.Dims.1⟩
theorem Es.slots {m:D.Model}(h:Es m){k:Int}(h0:0<=k)(hk:k<m.Exprs.length)(h2:(Ao m k).Op=2):(Ao m k).V.Scope≠0->(Ao m k).V.Scope≠1->0<=(Ao m k).V.Type_/\(Ao m k).V.Type_<m.Procs.length:=by
 have hx:=h.at h0 hk
 unfold CP at hx
 simp only[Bool.and_eq_true]at hx
 obtain⟨_,hO⟩:=hx
 generalize Ao m k=x at *
 rw[if_neg (by omega),if_pos h2]at hO
 simp only[Bool.and_eq_true,CT]at hO
 obtain⟨⟨⟨⟨⟨⟨hs0,hs2⟩,_⟩,_⟩,_⟩,hW⟩,_⟩:=hO
 intro n0 n1
 have hs:x.V.Scope=2:=by simp at hs0 hs2;omega
 simp only[hs,decide_true,cond_true,Bool.and_eq_true]at hW
 have:=hW.2
 unfold Cu at this
 simp at this;omega
structure Inv (m:D.Model) (i run:Int) (n:Nat) (b:Bool) (seen:List Bool) (todo:List Int) (k:Nat):Prop where
 sl:seen.length=m.Exprs.length
 le:k<=todo.length
 mem:InE m todo
 sum:todo.length+load m seen=n
 res:K7 m i run (todo.length - k+load m seen+1) seen (todo.drop k)=b
section
variable {m : D.Model} {i run:Int} {n:Nat} {b:Bool} {seen:List Bool} {todo:List Int} {k:Nat}
theorem Inv.at (h:Inv m i run n b seen todo k)(hk:k<todo.length):0<=todo.getD k 0/\todo.getD k 0<m.Exprs.length:=h.mem _ (An hk)
theorem Inv.step (h:Inv m i run n b seen todo k)(hk:k<todo.length) :
  (bif seen.getD (todo.getD k 0).toNat false then K7 m i run (todo.length - (k+1)+load m seen+1) seen (todo.drop (k+1)) else bif Ew m i run (todo.getD k 0) then false
   else K7 m i run (todo.length - (k+1)+load m seen+1) (seen.set (todo.getD k 0).toNat true) (todo.drop (k+1)++Bp (Ao m (todo.getD k 0))))=b:=by
 have:=h.res
 rw[Bb (d:=0) hk,show todo.length - k+load m seen+1=(todo.length - (k+1)+load m seen+1)+1 by omega]at this
 exact this
theorem Inv.had (h:Inv m i run n b seen todo k)(hk:k<todo.length)(hs:seen.getD (todo.getD k 0).toNat false=true):Inv m i run n b seen todo (k+1):=by
 have:=h.step hk
 rw[hs,cond_true]at this
 exact⟨h.sl,hk,h.mem,h.sum,this⟩
theorem Inv.bad (h:Inv m i run n b seen todo k)(hk:k<todo.length)(hs:seen.getD (todo.getD k 0).toNat false=false)(hu:Ew m i run (todo.getD k 0)=true):false=b:=by
 have:=h.step hk
 grind
theorem Inv.more (hr:Es m)(h:Inv m i run n b seen todo k)(hk:k<todo.length)(hs:seen.getD (todo.getD k 0).toNat false=false)(hu:Ew m i run (todo.getD k 0)=false) :
  Inv m i run n b (seen.set (todo.getD k 0).toNat true) (todo++Bp (Ao m (todo.getD k 0))) (k+1):=by
 have ht:=h.at hk
 have hl:=Ae0 (m:=m) hs (by rw[h.sl];omega) h.sl
 have:=h.step hk
 rw[hs,cond_false,hu,cond_false]at this
 have hsum:=h.sum
 have hx:m.Exprs.getD (todo.getD k 0).toNat default=Ao m (todo.getD k 0):=rfl
 rw[hx]at hl
 refine⟨by simp[h.sl],by simp;omega,fun x hxm=>?_,by grind,?_⟩
 ·rcases List.mem_append.1 hxm with hxm | hxm
  ·exact h.mem x hxm
  ·exact hr.held ht.1 ht.2 x hxm
 grind
end
theorem Qd (m:D.Model)(i run k:Int):Ew m i run k=((bif bif (Ao m k).Op==39 then k != run else false then true else bif i==m.Claim then bif bif (Ao m k).Op==31 then true else(Ao m k).Op==39 then true else bif (Ao m k).Op==2 then(Ao m k).V.Scope==1 else false else false) ||
  ((Ao m k).Op==2&&decide (EQ m i (Ao m k).V<CM (Ao m k).V))):=by
 unfold Ew
 grind
theorem NS {l:List Bool}{t j:Nat}(hj:j<l.length):(bif j.beq t then[VV.sc (.bool true)] else[.sc (.bool (l.getD j false))])=[Ac ((l.set t true).getD j false)]:=by
 cases hq:j.beq t with
 | true =>
  have:=Nat.eq_of_beq_eq_true hq;subst this
  simp[List.getD,hj,Ac]
 | false =>
  have hne:t≠j:=by rintro rfl;simp at hq
  simp[List.getD,hne,Ac]
theorem Sz {l r:List Int}{F:Nat->List VV}(hF:∀ i,i<l.length->F i=[Aa (l.getD i 0)]){i:Nat}(hi:i<(l++r).length):(bif i.blt l.length then F i else(fun j=>[Aa (r.getD j 0)]) (i - l.length))=AJ (l++r) i :=
 Bz (f:=fun n=>[Aa n]) (d:=0) (l:=l) (r:=r) (G:=fun j=>[Aa (r.getD j 0)]) hF (fun _ _=>rfl) hi
theorem ZB {m:D.Model}{i run:Int}{list:List Int}(hr:Es m)(hi0:0<=i)(hi:i<m.Procs.length)(hin:InE m list)(hlen:list.length<=2097152) :
  Al Tryz.prog 104 [] [tpM m,Aa i,Ad false list,Aa run] [] (Ac (IK m i list run)):=by
 have hN:=hr.wf.Exprs.1
 have hload:=AgU hr.small (A1 m)
 have hmul:m.Exprs.length*2097156<=1048576*2097156:=Nat.mul_le_mul_right _ hN
 generalize hb:IK m i list run=b
 have inv0:Inv m i run (list.length+load m (A1 m)) b (A1 m) list 0:=⟨by simp[A1],Nat.zero_le _,hin,rfl,by rw[← hb]<;>rfl⟩
 generalize hn:list.length+load m (A1 m)=n at inv0
 have hn2:n<=4398046511104:=by omega
 have small:∀ {t:Int},0<=t->t<m.Exprs.length->(Ao m t).Args.length<=1048576/\(Ao m t).V.Dims.length<=1048576:=fun h0 h1=>hr.small _ (LW h0 h1)
 have wfv:∀ {t:Int},0<=t->t<m.Exprs.length->Kc (Ao m t).V:=fun h0 h1=>(hr.wf.Exprs.2 _ (LW h0 h1)).V
 refine Ag Ai Aj Tryz.func104 (by kernel_rfl) rfl (AcF _ m i list run) ?_
 refine ZZ Ai Aj 0 (fun g st=>∃ (seen:List Bool) (todo:List Int) (k:Nat),Inv m i run n b seen todo k/\g=todo.length - k+load m seen/\st=Oq m i list run seen todo k) (by kernel_rfl) (by kernel_rfl) (by kernel_rfl) (by kernel_rfl) (AY.raw (ZD _ m i list run _) ?_) fun g st h=>?_
 ·have hnn:((m.Exprs.length:Int).toNat)=m.Exprs.length:=by omega
  rw[hnn]
  have hto:Int.toNat 0=0:=rfl
  have hz:∀ j,j<m.Exprs.length->(A1 m).getD j false=false:=fun j hj=>by simp[A1,List.getD,hj]
  have hsl:(A1 m).length=m.Exprs.length:=by simp[A1]
  refine⟨⟨by omega,by omega,by omega⟩,by omega,fun _ _=>rfl,fun h=>Ap ?_,fun h=>?_⟩
  ·have h0:list.length=0:=by simp at h;omega
   have:=inv0.res
   rw[List.eq_nil_of_length_eq_zero h0]at this
   rw[← this]<;>rfl
  ·have h0:0<list.length:=by simp at h;omega
   have ht:=inv0.at h0
   rw[hto]
   have hs:=hz (list.getD 0 0).toNat (by omega)
   have hbad:=Qd m i run (list.getD 0 0)
   have more:=fun hu=>inv0.more hr h0 hs hu
   have bad:=fun hu=>inv0.bad h0 hs hu
   have hsm:=small ht.1 ht.2
   have hwv:=wfv ht.1 ht.2
   have hsum:=inv0.sum
   have hsl2:=hr.slots ht.1 ht.2
   refine⟨⟨by omega,by omega⟩,⟨by omega,by omega⟩,fun h=>(by cases h),fun _=>⟨⟨by omega,by omega⟩,⟨by omega,by omega⟩,fun hc=>Ap (bad (by rw[hbad,Bool.or_eq_true];exact .inl hc)),fun hc=>?_⟩⟩
   have fin:Ew m i run (list.getD 0 0)=false->(list.length+(Bp (Ao m (list.getD 0 0))).length)*8<=140737488355328/\∃ g,Up (fun st=>∃ (seen:List Bool) (todo:List Int) (k:Nat),Inv m i run n b seen todo k/\g=todo.length - k+load m seen/\st=Oq m i list run seen todo k)
     (Av [(0,tpM m),(1,Aa i),(2,Ad false list),(3,Aa run),(9,.ow 0 0 m.Exprs.length),(10,.ow 1 0 (list.length+(Bp (Ao m (list.getD 0 0))).length)),(11,Aa (IntKind.i64.wrap (0+1)))]
      [.arr true 0 m.Exprs.length 1 (fun j=>bif j.beq (list.getD 0 0).toNat then[.sc (.bool true)] else[.sc (.bool false)]),.arr true 0 (list.length+(Bp (Ao m (list.getD 0 0))).length) 1 (fun j=>bif j.blt list.length then(fun j=>[Aa (list.getD j 0)]) j else(fun j=>[Aa ((Bp (Ao m (list.getD 0 0))).getD j 0)]) (j - list.length))]):=by
    intro hu
    have hm:=more hu
    have hm2:=hm.sum
    generalize Bp (Ao m (list.getD 0 0))=H at hm hm2 ⊢
    generalize (list.getD 0 0).toNat=t at hm hm2 ⊢
    rw[List.length_append]at hm2
    refine⟨by omega,(list++H).length - (0+1)+load m ((A1 m).set t true),?_⟩
    have hw1:IntKind.i64.wrap (0+1)=((1:Nat):Int):=rfl
    have hnl:m.Exprs.length=((A1 m).set t true).length:=by simp[A1]
    refine Up.mk (l':=[(0,tpM m),(1,Aa i),(2,Ad false list),(3,Aa run),(9,.ow 0 0 ((A1 m).set t true).length),(10,.ow 1 0 (list++H).length),(11,Aa ((1:Nat):Int))])
     (hs':=[.arr true 0 ((A1 m).set t true).length 1 (EU ((A1 m).set t true)),.arr true 0 (list++H).length 1 (AJ (list++H))]) ?_ ?_ ⟨_,_,_,hm,rfl,rfl⟩
    ·grind [List.length_append,AU]
    ·rw[← hnl,← List.length_append]
     refine⟨Ob.le_arr fun j hj=>AZ ?_,Ob.le_arr fun j hj=>AZ (Sz (fun i hi=>rfl) hj),trivial⟩
     have:=NS (l:=A1 m) (t:=t) (j:=j) (by omega)
     rw[hz j hj]at this
     exact this
   refine⟨fun h2=>⟨_,OH hwv,_,Ov (fun _=>⟨hi0,hi⟩) (hsl2 (eq_of_beq h2)),fun h3=>Ap (bad ?_),fun h3=>?_⟩,fun h2=>?_⟩
   ·rw[hbad,Bool.or_eq_true,Bool.and_eq_true];exact .inr ⟨h2,h3⟩
   ·have hu:Ew m i run (list.getD 0 0)=false:=by
     rw[hbad,Bool.or_eq_false_iff,Bool.and_eq_false_iff];exact⟨hc,.inr h3⟩
    obtain⟨f1,f2⟩:=fin hu
    exact⟨Bp (Ao m (list.getD 0 0)),Hw hsm.1 hsm.2,f1,fun i hi=>rfl,f2⟩
   ·have hu:Ew m i run (list.getD 0 0)=false:=by
     rw[hbad,Bool.or_eq_false_iff,Bool.and_eq_false_iff];exact⟨hc,.inl h2⟩
    obtain⟨f1,f2⟩:=fin hu
    exact⟨Bp (Ao m (list.getD 0 0)),Hw hsm.1 hsm.2,f1,fun i hi=>rfl,f2⟩
 ·obtain⟨seen,todo,k,inv,rfl,rfl⟩:=h
  refine AY.raw (ZC _ m i list run seen todo k _) ⟨fun h=>Ap ?_,fun h=>?_⟩
  ·have h0:k=todo.length:=by simp at h;omega
   have:=inv.res
   rw[List.drop_eq_nil_of_le (by omega)]at this
   rw[← this,K7]
  ·have hle:=inv.le
   have h0:k<todo.length:=by simp at h;omega
   have ht:=inv.at h0
   have hto:(k:Int).toNat=k:=by omega
   rw[hto]
   have hbad:=Qd m i run (todo.getD k 0)
   have hsm:=small ht.1 ht.2
   have hwv:=wfv ht.1 ht.2
   have hsum:=inv.sum
   have hsle:=inv.sl
   have hsl2:=hr.slots ht.1 ht.2
   refine⟨⟨by omega,by omega⟩,⟨by omega,by omega⟩,fun hs=>?_,fun hs=>?_⟩
   ·have hh:=inv.had h0 hs
    refine⟨todo.length - (k+1)+load m seen,by omega,Up.of ⟨seen,todo,k+1,hh,rfl,?_⟩⟩
    grind [Ak]
   have more:=fun hu=>inv.more hr h0 hs hu
   have bad:=fun hu=>inv.bad h0 hs hu
   refine⟨⟨by omega,by omega⟩,⟨by omega,by omega⟩,fun hc=>Ap (bad (by rw[hbad,Bool.or_eq_true];exact .inl hc)),fun hc=>?_⟩
   have fin:Ew m i run (todo.getD k 0)=false->(todo.length+(Bp (Ao m (todo.getD k 0))).length)*8<=140737488355328/\∃ g',g'<todo.length - k+load m seen/\Up (fun st=>∃ (seen:List Bool) (todo:List Int) (k:Nat),Inv m i run n b seen todo k/\g'=todo.length - k+load m seen/\st=Oq m i list run seen todo k)
     (Av [(0,tpM m),(1,Aa i),(2,Ad false list),(3,Aa run),(9,.ow 0 0 seen.length),(10,.ow 1 0 (todo.length+(Bp (Ao m (todo.getD k 0))).length)),(11,Aa (IntKind.i64.wrap (k+1)))]
      [.arr true 0 seen.length 1 (fun j=>bif j.beq (todo.getD k 0).toNat then[.sc (.bool true)] else[.sc (.bool (seen.getD j false))]),.arr true 0 (todo.length+(Bp (Ao m (todo.getD k 0))).length) 1 (fun j=>bif j.blt todo.length then AJ todo j else(fun j=>[Aa ((Bp (Ao m (todo.getD k 0))).getD j 0)]) (j - todo.length))]):=by
    intro hu
    have hm:=more hu
    have hm2:=hm.sum
    generalize Bp (Ao m (todo.getD k 0))=H at hm hm2 ⊢
    generalize (todo.getD k 0).toNat=t at hm hm2 ⊢
    rw[List.length_append]at hm2
    refine⟨by omega,(todo++H).length - (k+1)+load m (seen.set t true),by grind,?_⟩
    have hnl:seen.length=(seen.set t true).length:=by simp
    refine Up.mk (l':=[(0,tpM m),(1,Aa i),(2,Ad false list),(3,Aa run),(9,.ow 0 0 (seen.set t true).length),(10,.ow 1 0 (todo++H).length),(11,Aa ((k+1:Nat):Int))])
     (hs':=[.arr true 0 (seen.set t true).length 1 (EU (seen.set t true)),.arr true 0 (todo++H).length 1 (AJ (todo++H))]) ?_ ?_ ⟨_,_,_,hm,rfl,rfl⟩
    ·grind [Ak,List.length_append,AU]
    ·rw[← hnl,← List.length_append]
     exact⟨Ob.le_arr fun j hj=>AZ (NS hj),Ob.le_arr fun j hj=>AZ (Sz (fun i hi=>rfl) hj),trivial⟩
   refine⟨fun h2=>⟨_,OH hwv,_,Ov (fun _=>⟨hi0,hi⟩) (hsl2 (eq_of_beq h2)),fun h3=>Ap (bad ?_),fun h3=>?_⟩,fun h2=>?_⟩
   ·rw[hbad,Bool.or_eq_true,Bool.and_eq_true];exact .inr ⟨h2,h3⟩
   ·have hu:Ew m i run (todo.getD k 0)=false:=by
     rw[hbad,Bool.or_eq_false_iff,Bool.and_eq_false_iff];exact⟨hc,.inr h3⟩
    obtain⟨f1,f2⟩:=fin hu
    exact⟨Bp (Ao m (todo.getD k 0)),Hw hsm.1 hsm.2,f1,fun i hi=>rfl,f2⟩
   ·have hu:Ew m i run (todo.getD k 0)=false:=by
     rw[hbad,Bool.or_eq_false_iff,Bool.and_eq_false_iff];exact⟨hc,.inl h2⟩
    obtain⟨f1,f2⟩:=fin hu
    exact⟨Bp (Ao m (todo.getD k 0)),Hw hsm.1 hsm.2,f1,fun i hi=>rfl,f2⟩
theorem Yu {m:D.Model}{i run:Int}{list:List Int}{n:Nat}{F:Nat->List VV}(hr:Es m)(hi0:0<=i)(hi:i<m.Procs.length)(hin:InE m list)(hlen:list.length<=2097152)(hn:n=list.length)(hF:∀ j,j<list.length->F j=[Aa (list.getD j 0)]) :
  Al Tryz.prog 104 [] [tpM m,Aa i,.sl false n 1 F,Aa run] [] (Ac (IK m i list run)):=by
 subst hn
 exact(ZB hr hi0 hi hin hlen).le trivial ⟨VV.le_refl _,VV.le_refl _,VV.le_sl (.inl rfl) fun j hj=>AZ (hF j hj),VV.le_refl _,trivial⟩ trivial (VV.le_refl _)
def BL (s:D.Stmt):List Int:=s.Args++((if 0<=s.A then[s.A] else[])++(if 0<=s.B then[s.B] else[]))
theorem F8 {m:D.Model}{a:Int}(h:CX m a=true):0<=a/\a<m.Exprs.length:=B1.1 h
theorem Ol {m:D.Model}{a:Int}(h:BF m a=true):0<=a/\a<m.Exprs.length:=by
 unfold BF at h
 simp only[Bool.and_eq_true]at h
 exact F8 h.1.1
theorem UB {m:D.Model}{a:Int}{args mt:List Int}(h:BX m a args mt=true):1<=args.length/\args.length<=8/\mt.length=args.length/\∀ x∈args,0<=x/\x<a:=by
 unfold BX at h
 simp_all [Bool.and_eq_true,decide_eq_true_eq,EC]
theorem HP {m:D.Model}{s:D.Stmt}(h:Au m s=true):InE m s.Args/\(0<=s.A->s.A<m.Exprs.length)/\(0<=s.B->s.B<m.Exprs.length):=by
 have none:∀ {n t:Bool},Di s true n t=true->InE m s.Args:=fun he=>by
  unfold Di at he
  simp only[Bool.and_eq_true,Bool.not_true,Bool.false_or,decide_eq_true_eq]at he
  have:s.Args=[]:=List.eq_nil_of_length_eq_zero (by omega)
  rw[this];intro x hx;cases hx
 unfold Au at h
 split at h
 ·simp_all [Bool.and_eq_true,decide_eq_true_eq,F8]
 split at h
 ·simp_all [Bool.and_eq_true,Ol,F8]
 split at h
 ·simp only[Bool.and_eq_true,decide_eq_true_eq]at h
  exact⟨EC.1 h.1.1.1.2,fun h0=>by omega,fun h0=>by omega⟩
 split at h
 ·simp only[Bool.and_eq_true,decide_eq_true_eq]at h
  exact⟨EC.1 h.1.1.1.2,fun _=>(F8 h.1.1.1.1.1.1.1).2,fun h0=>by omega⟩
 split at h
 ·simp only[Bool.and_eq_true,decide_eq_true_eq]at h
  have ht:=h.1.1.1.2
  unfold Fd at ht
  simp only[Bool.and_eq_true]at ht
  exact⟨(UB ht.1).2.2.2,fun _=>(F8 h.1.1.1.1.1).2,fun h0=>by omega⟩
 split at h
 ·grind
 simp_all [Bool.and_eq_true,decide_eq_true_eq,Ol]
theorem Vl {m:D.Model}{s:D.Stmt}(h:Au m s=true):InE m (BL s):=by
 obtain⟨h1,h2,h3⟩:=HP h
 intro x hx
 unfold BL at hx
 rcases List.mem_append.1 hx with hx | hx
 ·exact h1 x hx
 grind
theorem Acv {m:D.Model}{i:Int}{s:D.Stmt}(hr:Es m)(hi0:0<=i)(hi:i<m.Procs.length)(hs:MT s):Al Tryz.prog 103 [] [tpM m,Aa i,.agg (Ar s)] [] (Ac (JV m i s)):=by
 have ha:=hs.a
 have hkn:∀ {k:Int},(s.Kind==k)=true->s.Kind=k:=fun h=>by simpa using h
 have hkf:∀ {k:Int},(s.Kind==k)=false->s.Kind≠k:=fun h=>by simpa using h
 have ec:(bif bif bif bif i==m.Claim then s.Kind != 1 else false then s.Kind != 3 else false then s.Kind != 7 else false then s.Kind != 8 else false)=(decide (i=m.Claim)&&(decide (s.Kind≠1)&&(decide (s.Kind≠3)&&(decide (s.Kind≠7)&&decide (s.Kind≠8))))):=by grind
 refine Ag Ai Aj Tryz.func103 (by kernel_rfl) rfl (AfZ _ m i s) ⟨Au m s,Oo hs,?_⟩
 rw[ec]
 have ew:JV m i s=(Au m s&&!(decide (i=m.Claim)&&(decide (s.Kind≠1)&&(decide (s.Kind≠3)&&(decide (s.Kind≠7)&&decide (s.Kind≠8)))))&&IK m i (BL s) (if s.Kind=1 then s.A else if s.Kind=2 then s.B else -1)):=rfl
 generalize (decide (i=m.Claim)&&(decide (s.Kind≠1)&&(decide (s.Kind≠3)&&(decide (s.Kind≠7)&&decide (s.Kind≠8)))))=cl at ew ⊢
 refine⟨fun h=>Ap ?_,fun h=>?_⟩
 ·grind
 ·have hq:Au m s=true:=by grind
  have hcl:cl=false:=by rw[hq]at h;simpa using h
  rw[hq,hcl]at ew
  simp only[Bool.not_false,Bool.true_and]at ew
  have hin:=Vl hq
  have go:∀ (run:Int) (n:Nat) (F:Nat->List VV),n=(BL s).length->(∀ j,j<(BL s).length->F j=[Aa ((BL s).getD j 0)])->Al Tryz.prog 104 [] [tpM m,Aa i,.sl false n 1 F,Aa run] [] (Ac (IK m i (BL s) run)):=fun run n F hn hF =>
   Yu hr hi0 hi hin (by unfold BL;grind) hn hF
  have r1:s.Kind=1->JV m i s=IK m i (BL s) s.A:=fun h=>by rw[ew,if_pos h]
  have r2:s.Kind≠1->s.Kind=2->JV m i s=IK m i (BL s) s.B:=fun h h'=>by rw[ew,if_neg h,if_pos h']
  have r3:s.Kind≠1->s.Kind≠2->JV m i s=IK m i (BL s) (-1):=fun h h'=>by rw[ew,if_neg h,if_neg h']
  generalize JV m i s=b at r1 r2 r3 ⊢
  refine⟨by omega,fun _ _=>rfl,fun hA=>⟨by omega,fun hB=>⟨by omega,?_⟩,fun hB=>?_⟩,fun hA=>⟨fun hB=>⟨by omega,?_⟩,fun hB=>?_⟩⟩
  ·have hL:BL s=(s.Args++[s.A])++[s.B]:=by unfold BL;grind
   have c1:s.Args.length+1+1=(BL s).length:=by rw[hL];simp
   have e1:s.Args.length+1=(s.Args++[s.A]).length:=by simp
   have c2:∀ j,j<(BL s).length->(bif Nat.blt j (s.Args.length+1) then(fun j=>bif Nat.blt j s.Args.length then[VV.sc (.int .i64 (s.Args.getD j 0))] else(fun i=>List.take 1 (List.drop (i*1) [VV.sc (.int .i64 s.A)])) (j - s.Args.length)) j else(fun i=>List.take 1 (List.drop (i*1) [VV.sc (.int .i64 s.B)])) (j - (s.Args.length+1)))=[Aa ((BL s).getD j 0)]:=by
    rw[hL,e1]
    exact fun j hj=>Bz (f:=fun n=>[Aa n]) (d:=0) (l:=s.Args++[s.A]) (r:=[s.B]) (F:=fun j=>bif Nat.blt j s.Args.length then[VV.sc (.int .i64 (s.Args.getD j 0))] else(fun i=>List.take 1 (List.drop (i*1) [VV.sc (.int .i64 s.A)])) (j - s.Args.length)) (fun i hi=>Bz (f:=fun n=>[Aa n]) (d:=0) (l:=s.Args) (r:=[s.A]) (F:=fun j=>[.sc (.int .i64 (s.Args.getD j 0))]) (fun i hi=>rfl) EV hi) EV hj
   exact⟨fun k1=>⟨_,go _ _ _ c1 c2,Ap (r1 (hkn k1)).symm⟩,fun k1=>⟨fun k2=>⟨_,go _ _ _ c1 c2,Ap (r2 (hkf k1) (hkn k2)).symm⟩,fun k2=>⟨_,go _ _ _ c1 c2,Ap (r3 (hkf k1) (hkf k2)).symm⟩⟩⟩
  ·have hL:BL s=s.Args++[s.A]:=by unfold BL;grind
   have c1:s.Args.length+1=(BL s).length:=by rw[hL];simp
   have c2:∀ j,j<(BL s).length->(bif Nat.blt j s.Args.length then[VV.sc (.int .i64 (s.Args.getD j 0))] else(fun i=>List.take 1 (List.drop (i*1) [VV.sc (.int .i64 s.A)])) (j - s.Args.length))=[Aa ((BL s).getD j 0)]:=by
    rw[hL]
    exact fun j hj=>Bz (f:=fun n=>[Aa n]) (d:=0) (l:=s.Args) (r:=[s.A]) (F:=fun j=>[.sc (.int .i64 (s.Args.getD j 0))]) (fun i hi=>rfl) EV hj
   exact⟨fun k1=>⟨_,go _ _ _ c1 c2,Ap (r1 (hkn k1)).symm⟩,fun k1=>⟨fun k2=>⟨_,go _ _ _ c1 c2,Ap (r2 (hkf k1) (hkn k2)).symm⟩,fun k2=>⟨_,go _ _ _ c1 c2,Ap (r3 (hkf k1) (hkf k2)).symm⟩⟩⟩
  ·have hL:BL s=s.Args++[s.B]:=by unfold BL;grind
   have c1:s.Args.length+1=(BL s).length:=by rw[hL];simp
   have c2:∀ j,j<(BL s).length->(bif Nat.blt j s.Args.length then[VV.sc (.int .i64 (s.Args.getD j 0))] else(fun i=>List.take 1 (List.drop (i*1) [VV.sc (.int .i64 s.B)])) (j - s.Args.length))=[Aa ((BL s).getD j 0)]:=by
    rw[hL]
    exact fun j hj=>Bz (f:=fun n=>[Aa n]) (d:=0) (l:=s.Args) (r:=[s.B]) (F:=fun j=>[.sc (.int .i64 (s.Args.getD j 0))]) (fun i hi=>rfl) EV hj
   exact⟨fun k1=>⟨_,go _ _ _ c1 c2,Ap (r1 (hkn k1)).symm⟩,fun k1=>⟨fun k2=>⟨_,go _ _ _ c1 c2,Ap (r2 (hkf k1) (hkn k2)).symm⟩,fun k2=>⟨_,go _ _ _ c1 c2,Ap (r3 (hkf k1) (hkf k2)).symm⟩⟩⟩
  ·have hL:BL s=s.Args:=by unfold BL;grind
   have c1:s.Args.length=(BL s).length:=by rw[hL]
   have c2:∀ j,j<(BL s).length->[Aa (s.Args.getD j 0)]=[Aa ((BL s).getD j 0)]:=by rw[hL];exact fun _ _=>rfl
   exact⟨fun k1=>⟨_,go _ _ _ c1 c2,Ap (r1 (hkn k1)).symm⟩,fun k1=>⟨fun k2=>⟨_,go _ _ _ c1 c2,Ap (r2 (hkf k1) (hkn k2)).symm⟩,fun k2=>⟨_,go _ _ _ c1 c2,Ap (r3 (hkf k1) (hkf k2)).symm⟩⟩⟩
theorem Acr {t:D.Trans}(h:KY t):MT t.S:=⟨h.S.Args.1,h.S.Match.1⟩
theorem AfW {l:D.Loc}(h:Kd l):(Bw l).length<=1048577/\∀ w∈Bw l,Jp w:=by
 refine⟨by have:=h.Esc.1;simp[Bw];omega,fun w hw=>?_⟩
 rcases List.mem_cons.1 hw with rfl | hw
 ·exact h.Out
 ·exact h.Esc.2 w hw
theorem Abg {m:D.Model}{i:Int}(hr:Es m)(hi0:0<=i)(hi:i<m.Procs.length)(hpv:(m.Procs.getD i.toNat default).Provided<m.Exprs.length) :
  Al Tryz.prog 62 [] [tpM m,Aa i] [] (Ac (CW m i)):=by
 have hw:=hr.wf.Procs.2 _ (An (d:=default) (show i.toNat<m.Procs.length by omega))
 refine Ag Ai Aj Tryz.func62 (by kernel_rfl) rfl (AdW _ m i) ⟨⟨hi0,hi⟩,?_⟩
 generalize hb:CW m i=b
 unfold CW at hb
 simp only at hb
 generalize m.Procs.getD i.toNat default=p at hw hpv hb ⊢
 have hl:=hw.Locs.1
 have bad:∀ k,k<p.Locs.length->Nu m i (p.Locs.getD k default)=false->false=b:=fun k hk hf=>by grind [BE]
 refine AH Ai Aj p.Locs.length (fun k=>Lm m i p k) (fun k=>∀ j,j<k->Nu m i (p.Locs.getD j default)=true) (by kernel_rfl) (by kernel_rfl) (fun i hi=>by omega) ?_
 intro k hk hI J next
 refine AY.raw (Abj _ m i p k J) ⟨fun hlt=>?_,fun hge=>⟨IK m i [p.Provided] (-1),fun hy=>?_,Ap ?_⟩⟩
 ·have hlt':k<p.Locs.length:=by have:=AG hlt;omega
  have hto:(k:Int).toNat=k:=by omega
  rw[hto]
  have hwl:=hw.Locs.2 _ (An (d:=default) hlt')
  have bad':=bad k hlt'
  have next':∀ st',Nu m i (p.Locs.getD k default)=true->Up (fun s=>s=Lm m i p ((k+1:Nat):Int)) st'->J st':=(by grind)
  generalize p.Locs.getD k default=l at hwl bad' next' ⊢
  obtain⟨hws,hwe⟩:=AfW hwl
  refine⟨⟨by omega,by omega⟩,Bw l,P6 hwl.Esc.1,?_⟩
  unfold Nu at bad' next'
  generalize Bw l=ws at hws hwe bad' next' ⊢
  refine AH Ai Aj ws.length (fun j=>Ll m i p k ws j) (fun j=>∀ x,x<j->IL m i (ws.getD x [])=true) (by kernel_rfl) (by kernel_rfl) (fun i hi=>by omega) ?_
  intro j hj hI2 J2 next2
  refine AY.raw (Abi _ m i p k ws j J J2) ⟨fun hlt2=>?_,fun hge2=>?_⟩
  ·have hlt2':j<ws.length:=by have:=AG hlt2;omega
   have hto2:(j:Int).toNat=j:=by omega
   rw[hto2]
   have hwle:=hwe _ (An (d:=[]) hlt2')
   have bad2:IL m i (ws.getD j [])=false->false=b:=fun hf=>bad' (BE (f:=fun x=>IL m i (ws.getD x [])) hlt2' hf)
   have next2':∀ st',IL m i (ws.getD j [])=true->Up (fun s=>s=Ll m i p k ws ((j+1:Nat):Int)) st'->J2 st':=(by grind)
   generalize ws.getD j []=w at hwle bad2 next2' ⊢
   have hwl1:=hwle.1
   refine⟨⟨by omega,by omega⟩,?_⟩
   refine AH Ai Aj w.length (fun h=>NN m i p k ws j w h) (fun h=>∀ x,x<h->JV m i (w.getD x default).S=true) (by kernel_rfl) (by kernel_rfl) (fun i hi=>by omega) ?_
   intro h hh hI3 J3 next3
   refine AY.raw (Abh _ m i p k ws j w h J J2 J3) ⟨fun hlt3=>?_,fun hge3=>?_⟩
   ·have hlt3':h<w.length:=by have:=AG hlt3;omega
    have hto3:(h:Int).toNat=h:=by omega
    rw[hto3]
    have hst:=Acr (hwle.2 _ (An (d:=default) hlt3'))
    refine⟨⟨by omega,by omega⟩,JV m i (w.getD h default).S,Acv hr hi0 hi hst,fun hy=>Ap ?_,fun hy=>next3 _ hlt3' (fun x hx=>?_) (Up.of ?_)⟩
    ·exact bad2 (BE (f:=fun x=>JV m i (w.getD x default).S) hlt3' (by simpa using hy))
    ·grind
    grind [Ak]
   ·have hge3':w.length<=h:=by have:=AI hge3;omega
    refine next2' _ (AK.2 fun x hx=>hI3 x (by omega)) (Up.of ?_)
    grind [Ak]
  grind [AI,AK,Up.of,Ak]
 ·have h0:0<=p.Provided:=by simp at hy;omega
  refine Al.frz (Yu (list:=[p.Provided]) (n:=1) hr hi0 hi (fun x hx=>?_) (by simp) rfl EV) rfl ?_
  ·grind
  ·intro j x y hx hy
   match j with
   | 0=>grind [E3]
   | 1=>grind [E3]
   | 2=>simp only[List.getElem?_cons_succ,List.getElem?_cons_zero,Option.some.injEq]at hx hy;subst hx hy;exact Se
   | 3=>grind [E3]
   | j+4=>simp at hx
 ·have hge':p.Locs.length<=k:=by have:=AI hge;omega
  rw[← hb,(AK (n:=p.Locs.length) (f:=fun k=>Nu m i (p.Locs.getD k default))).2 fun j hj=>hI j (by omega),Bool.true_and,Cn]
theorem Ra {m:D.Model}:∀ (g i:Nat) (had:List Bool),g+i=m.Exprs.length->Fp m g i had<0->∀ j,i<=j->j<m.Exprs.length->CP m j=true
 | 0,i,had,h,_,j,h1,h2=>by omega
 | g+1,i,had,h,hn,j,h1,h2=>by
  unfold Fp at hn
  cases he:CP m i with
  | false=>grind
  | true =>
   rw[he,cond_true]at hn
   split at hn
   ·rename_i had' _
    by_cases hij:i=j
    ·subst hij;exact he
    ·exact Ra g (i+1) had' (by omega) hn j (by omega) h2
   ·omega
theorem Jb {m:D.Model}(h:Ij m<0):∀ k:Nat,k<m.Exprs.length->CP m k=true:=fun k hk=>Ra _ 0 _ rfl h k (Nat.zero_le _) hk
theorem E5 {n:Nat}{f:Nat->Bool}(h:HB n f<0):∀ i,i<n->f i=true:=by grind [Px]
theorem Ahd {n:Nat}{f:Nat->Bool}:-1<=HB n f:=by grind [Px]
theorem SY {m:D.Model}(hw:A2 m):Al Tryz.prog 58 [] [tpM m] [] (.tup [Aa (BS m).1,Aa (BS m).2]):=by
 have hG:=hw.Globals.1
 have hS:=hw.Shapes.1
 have hC:=hw.Chans.1
 have hE:=hw.Exprs.1
 refine Ag Ai Aj Tryz.func58 (by kernel_rfl) rfl (Vv _ _ m) ?_
 have t1:(bif decide ((m.Globals.length:Int) > 128) then true else(m.Init.length:Int) != (m.Globals.length:Int))=(decide (128<m.Globals.length)||!decide (m.Init.length=m.Globals.length)):=by grind
 have t2:(bif decide ((m.Shapes.length:Int) > 32) then true else decide ((m.Chans.length:Int) > 32))=(decide (32<m.Shapes.length)||decide (32<m.Chans.length)):=by grind
 have t3:(bif bif bif bif decide ((m.Procs.length:Int)<1) then true else decide ((m.Procs.length:Int) > 16) then true else decide (m.Claim<(-1:Int)) then true else decide (m.Claim>=(m.Procs.length:Int)) then true else decide ((m.Exprs.length:Int) > 4096)) =
   (decide (m.Procs.length<1)||(decide (16<m.Procs.length)||(decide (m.Claim < -1)||(decide ((m.Procs.length:Int)<=m.Claim)||decide (4096<m.Exprs.length))))):=by grind
 rw[t1,t2]
 generalize hR:BS m=R
 unfold BS at hR
 refine⟨fun h=>Fb (by grind),fun h=>⟨Ex m.Globals m.Init,Og (by simp at h;omega) hG,fun h2=>Fb (by grind),fun h2=>⟨fun h3=>Fb ?_,fun h3=>?_⟩⟩⟩
 ·grind
 rw[h,cond_false,h2,cond_false,h3,cond_false]at hR
 refine AH Ai Aj m.Shapes.length (fun k=>RG m k) (fun k=>∀ i,i<k->CF (m.Shapes.getD i default)=true) (by kernel_rfl) (by kernel_rfl) (fun i hi=>by omega) ?_
 intro k hk hI J next
 refine AY.raw (S2 _ _ m k J) ⟨fun hlt=>?_,fun hge=>?_⟩
 ·have hlt':k<m.Shapes.length:=by have:=AG hlt;omega
  refine⟨⟨by omega,by omega⟩,CF (m.Shapes.getD k default),VG (hw.Shapes.2 _ (An hlt')),fun hy=>Fb ?_,fun hy=>next _ hlt' (fun i hi=>?_) (Up.of ?_)⟩
  ·have e:FY m=k:=DQ (f:=fun i=>CF (m.Shapes.getD i default)) hI hlt' (by simpa using hy)
   grind
  ·grind
  grind [Ak]
 have hge':m.Shapes.length<=k:=by have:=AI hge;omega
 have es:FY m=-1:=Db (f:=fun i=>CF (m.Shapes.getD i default)) fun i hi=>hI i (by omega)
 rw[es,show decide ((0:Int)<=-1)=false from rfl,cond_false]at hR
 clear hI next
 refine AH Ai Aj m.Chans.length (fun k=>RF m k) (fun k=>∀ i,i<k->inP m.Shapes.length (m.Chans.getD i 0)=true) (by kernel_rfl) (by kernel_rfl) (fun i hi=>by omega) ?_
 intro k hk hI J next
 refine AY.raw (S1 _ _ m k J) ⟨fun hlt=>?_,fun hge=>?_⟩
 ·have hlt':k<m.Chans.length:=by have:=AG hlt;omega
  have hto:(k:Int).toNat=k:=by omega
  rw[hto]
  have hin:inP m.Shapes.length (m.Chans.getD k 0)=!(bif decide (m.Chans.getD k 0<0) then true else decide (m.Chans.getD k 0>=(m.Shapes.length:Int))):=by unfold inP;rw[Bool.eq_iff_iff];simp
  refine⟨⟨by omega,by omega⟩,fun hy=>Fb ?_,fun hy=>next _ hlt' (fun i hi=>?_) (Up.of ?_)⟩
  ·have e:Iq m=k:=DQ (f:=fun i=>inP m.Shapes.length (m.Chans.getD i 0)) hI hlt' (by grind)
   grind
  ·grind
  grind [Ak]
 have hge':m.Chans.length<=k:=by have:=AI hge;omega
 have ec:Iq m=-1:=Db (f:=fun i=>inP m.Shapes.length (m.Chans.getD i 0)) fun i hi=>hI i (by omega)
 rw[ec,show decide ((0:Int)<=-1)=false from rfl,cond_false]at hR
 rw[t3]
 refine⟨fun h4=>Fb (by grind),fun h4=>⟨⟨by omega,by omega,by omega⟩,?_⟩⟩
 rw[h4,cond_false]at hR
 clear hI next
 have hnn:((m.Exprs.length:Int).toNat)=(A1 m).length:=by simp[A1]
 have hnl:(A1 m).length=m.Exprs.length:=by simp[A1]
 refine Aq.le (l':=[(0,tpM m),(4,.bp 0 0),(10,.ow 1 0 (A1 m).length),(116,Aa m.Exprs.length),(117,Aa 0)]) (hs':=[.box (Af m),.arr true 0 (A1 m).length 1 (EU (A1 m))]) ?_ ?_ ?_
 ·rw[hnn];exact AU _
 ·rw[hnn]
  refine⟨Ob.le_refl _,Ob.le_arr fun i hi=>AZ ?_,trivial⟩
  have:(A1 m).getD i false=false:=by
   have hi':i<m.Exprs.length:=by rw[← hnl];exact hi
   simp[A1,List.getD,hi']
  show _=[Ac ((A1 m).getD i false)]
  rw[this]<;>rfl
 generalize hX:Ij m=X at hR
 have fin:∀ {y:Int × Int},(bif decide (0<=X) then((3:Int),X) else(0,0))=y->y=R:=fun h=>by rw[← h];exact hR
 refine AA Ai Aj (fun g st=>∃ (k:Nat) (had:List Bool),k<=m.Exprs.length/\g=m.Exprs.length - k/\had.length=m.Exprs.length/\Fp m (m.Exprs.length - k) k had=X/\st=VB m had k) (by kernel_rfl) (by kernel_rfl) ⟨_,Up.of ⟨0,A1 m,Nat.zero_le _,rfl,hnl,hX,rfl⟩⟩ ?_
 rintro g st ⟨k,had,hk,rfl,hhl,hr,rfl⟩
 refine AY.raw (S0 _ _ m had k _) ⟨fun hlt=>?_,fun hge=>Fb (fin ?_)⟩
 ·have hlt':k<m.Exprs.length:=by have:=AG hlt;omega
  have hto:(k:Int).toNat=k:=by omega
  rw[hto]
  have hwx:GS (m.Exprs.getD k default):=hw.Exprs.2 _ (An hlt')
  rw[show m.Exprs.length - k=(m.Exprs.length - (k+1))+1 by omega]at hr
  unfold Fp at hr
  refine⟨CP m k,AbX (by omega) (by omega) (by unfold Ao;rw[hto];exact hwx),fun hy=>Fb (fin ?_),fun hy=>⟨⟨by omega,by omega⟩,Bp (m.Exprs.getD k default),Hw hwx.Args.1 hwx.V.Dims.1,?_⟩⟩
  ·grind
  ·have hye:CP m k=true:=by simpa using hy
   rw[hye,cond_true]at hr
   have hin:=LR hye
   have hhlen:=LP hwx.Args.1 hwx.V.Dims.1
   unfold Ao at hin
   rw[hto]at hin
   generalize Bp (m.Exprs.getD k default)=l at hin hhlen hr ⊢
   generalize ho:PY had l=o at hr
   refine AA Ai Aj (fun g st=>∃ (j:Nat) (had':List Bool),j<=l.length/\g=l.length - j/\had'.length=m.Exprs.length/\PY had' (l.drop j)=o/\st=VA m had' k l j) (by kernel_rfl) (by kernel_rfl) ⟨_,Up.of ⟨0,had,Nat.zero_le _,rfl,hhl,ho,rfl⟩⟩ ?_
   rintro g st ⟨j,had',hj,rfl,hhl',hq,rfl⟩
   refine AY.raw (SZ _ _ m had' k l j _ _) ⟨fun hlt2=>?_,fun hge2=>?_⟩
   ·have hlt2':j<l.length:=by have:=AG hlt2;omega
    have hto2:(j:Int).toNat=j:=by omega
    rw[hto2]
    have hpi:=hin _ (An (d:=0) hlt2')
    rw[Bb (d:=0) hlt2']at hq
    generalize l.getD j 0=p at hpi hq ⊢
    unfold PY at hq
    refine⟨⟨by omega,by omega⟩,⟨by omega,by omega⟩,fun hy=>Fb (fin ?_),fun hy=>⟨⟨by omega,by omega⟩,l.length - (j+1),by omega,?_⟩⟩
    ·grind
    ·rw[hy,cond_false]at hq
     have hsl:(had'.set p.toNat true).length=had'.length:=by simp
     rw[Ak (by omega)]
     refine Up.mk (l':=[(0,tpM m),(4,.bp 0 0),(10,.ow 1 0 (had'.set p.toNat true).length),(11,Aa k),(116,Aa m.Exprs.length),(117,Aa k),(130,Ad true l),(131,Aa l.length),(132,Aa ((j+1:Nat):Int))])
      (hs':=[.box (Af m),.arr true 0 (had'.set p.toNat true).length 1 (EU (had'.set p.toNat true))]) ?_ ?_ ⟨j+1,had'.set p.toNat true,by omega,rfl,by rw[hsl];exact hhl',hq,rfl⟩
     ·rw[hsl];exact AU _
     ·rw[hsl]
      exact⟨Ob.le_refl _,Ob.le_arr fun i hi=>AZ (NS hi),trivial⟩
   ·have hge2':l.length<=j:=by have:=AI hge2;omega
    rw[List.drop_eq_nil_of_le hge2']at hq
    unfold PY at hq
    rw[← hq]at hr
    rw[Ak (by omega)]
    exact⟨m.Exprs.length - (k+1),by omega,Up.of (by grind)⟩
 ·have hge':m.Exprs.length<=k:=by have:=AI hge;omega
  rw[show m.Exprs.length - k=0 by omega]at hr
  unfold Fp at hr
  rw[← hr]<;>rfl
theorem I9 (m:D.Model)(k:Nat):De m k=(bif bif bif bif !(Eg (m.Procs.getD k default)) then true else !(Ef (m.Procs.getD k default)) then true else decide ((m.Procs.getD k default).Provided<(-1:Int)) then true else decide ((m.Procs.getD k default).Provided>=(m.Exprs.length:Int)) then true else bif (k:Int)==m.Claim then !(Ep (m.Procs.getD k default)) else false):=by
 unfold De
 grind
theorem QX {m:D.Model}{k:Nat}(hk:k<m.Procs.length):El m (k+1)=El m k+(m.Procs.getD k default).Active:=by
 unfold El
 grind [CU]
theorem HO {m:D.Model}(hw:A2 m)(h:¬ 0<(BS m).1):Es m:=by
 refine⟨hw,Jb ?_⟩
 have hx:-1<=Ij m:=by
  unfold Ij
  have:∀ (g i:Nat) (had:List Bool),-1<=Fp m g i had:=by
   intro g
   induction g with
   | zero=>intro i had;unfold Fp;omega
   | succ g ih =>
    intro i had
    unfold Fp
    grind
  exact this _ _ _
 refine Classical.byContradiction fun hn=>h ?_
 unfold BS
 grind
theorem Pr {m:D.Model}(hw:A2 m):Al Tryz.prog 28 [] [.agg (Af m)] [] (.tup [Aa (Eh m).1,Aa (Eh m).2.1,Aa (Eh m).2.2]):=by
 have hP:=hw.Procs.1
 refine Ag Ai Aj Tryz.func28 (by kernel_rfl) rfl (Ab6 _ _ _ m) ⟨BS m,SY hw,?_⟩
 generalize hR:Eh m=R
 unfold Eh at hR
 refine⟨fun h=>J7 (by grind),fun h=>?_⟩
 have hready:=HO hw (of_decide_eq_false h)
 rw[show decide (0<(BS m).1)=false from h,cond_false]at hR
 refine AH Ai Aj m.Procs.length (fun k=>Ls m (El m k) k) (fun k=>(∀ i,i<k->(!De m i)=true)/\0<=El m k/\El m k<=16*k) (by kernel_rfl) (by kernel_rfl) ⟨fun i hi=>by omega,by simp[El],by simp[El]⟩ ?_
 intro k hk ⟨hI,hm0,hm1⟩ J next
 refine AY.raw (X7 _ _ _ m (El m k) k J) ⟨fun hlt=>?_,fun hge=>?_⟩
 ·have hlt':k<m.Procs.length:=by have:=AG hlt;omega
  have hto:(k:Int).toNat=k:=by omega
  rw[hto]
  have hwp:=hw.Procs.2 _ (An (d:=default) hlt')
  refine⟨⟨by omega,by omega⟩,Eg (m.Procs.getD k default),XQ hwp,Ef (m.Procs.getD k default),fun _=>XI hwp,Ep (m.Procs.getD k default),fun _=>Sq hwp,?_⟩
  rw[← I9]
  refine⟨fun hy=>J7 ?_,fun hy=>?_⟩
  ·have e:Fy m=k:=DQ (f:=fun i=>!De m i) hI hlt' (by rw[hy]<;>rfl)
   grind
  ·have hfr:Eg (m.Procs.getD k default)=true:=by grind [I9]
   have hac:0<=(m.Procs.getD k default).Active/\(m.Procs.getD k default).Active<=16:=by
    unfold Eg at hfr
    grind
   grind [QX,Up.of,Nat.lt_succ_iff_lt_or_eq,Ak,AL]
 ·have hge':k=m.Procs.length:=by have:=AI hge;omega
  subst hge'
  have e:Fy m=-1:=Db (f:=fun i=>!De m i) fun i hi=>hI i (by omega)
  rw[e,show decide ((0:Int)<=-1)=false from rfl,cond_false]at hR
  refine⟨fun h2=>J7 (by grind),fun h2=>?_⟩
  rw[show decide (16<El m m.Procs.length)=false from h2,cond_false]at hR
  have hpv:∀ i,i<m.Procs.length->(m.Procs.getD i default).Provided<m.Exprs.length:=fun i hi=>by grind [I9,Cn,Bool.not_eq_true',Bool.or_eq_false_iff,decide_eq_false_iff_not]
  clear hI next
  refine AH Ai Aj m.Procs.length (fun k=>Lr m k) (fun k=>∀ i:Nat,i<k->CW m i=true) (by kernel_rfl) (by kernel_rfl) (fun i hi=>by omega) ?_
  intro k hk hI J next
  refine AY.raw (X6 _ _ _ m k J) ⟨fun hlt=>?_,fun hge=>J7 ?_⟩
  ·have hlt':k<m.Procs.length:=by have:=AG hlt;omega
   refine⟨CW m k,Abg hready (by omega) (by omega) (hpv _ (by omega)),fun hy=>J7 ?_,fun hy=>next _ hlt' (fun i hi=>?_) (Up.of ?_)⟩
   ·have e:H5 m=k:=DQ (f:=fun i:Nat=>CW m i) hI hlt' (by simpa using hy)
    grind
   ·grind
   grind [Ak]
  ·have hge':m.Procs.length<=k:=by have:=AI hge;omega
   have e:H5 m=-1:=Db (f:=fun i:Nat=>CW m i) fun i hi=>hI i (by omega)
   grind
def J9 (fz:Bool)(x:D.State):List VV:=[Ad true x.Globals,AV fz x.Chans,Ay fz x.Procs,Aa x.Last,Aa x.Alone,Aa x.Claim]
def Bi (t:List D.Type)(l:List Int):Bool:=decide (t.length=l.length)&&Cd l.length fun i=>Cx (t.getD i default) (l.getD i 0)
def BW (m:D.Model)(k:Int):D.Shape:=m.Shapes.getD k.toNat default
def AN (m:D.Model)(k:Int):D.Proc:=m.Procs.getD k.toNat default
def CQ (m:D.Model)(c:D.Chan):Bool:=inP m.Shapes.length c.Shape&&decide ((c.Queue.length:Int)<=(BW m c.Shape).Room)&&Cd c.Queue.length fun i=>Bi (BW m c.Shape).Fields (c.Queue.getD i [])
def AT (m:D.Model)(p:D.Process):Bool:=Cu m p.Type_&&inP (AN m p.Type_).Locs.length p.Loc&&decide (p.Prio=(AN m p.Type_).Prio)&&Bi (AN m p.Type_).Frame p.Frame
def GB (m:D.Model)(s:D.State):Bool:=Bi m.Globals s.Globals&&decide (s.Chans.length<=32)&&decide (s.Procs.length<=16)&&decide (0<=s.Last)&&decide (s.Last<16)&&decide (-1<=s.Alone)&&decide (s.Alone<s.Procs.length)
def Et (m:D.Model)(s:D.State):Bool:=bif decide (m.Claim<0) then decide (s.Claim=-1) else inP (AN m m.Claim).Locs.length s.Claim
def CR (m:D.Model)(s:D.State):Bool:=GB m s&&(Cd s.Chans.length fun i=>CQ m (s.Chans.getD i default))&&(Cd s.Procs.length fun i=>AT m (s.Procs.getD i default))&&Et m s
def F2 (m:D.Model):Bool:=decide ((Eh m).1=0)
def B3 (m:D.Model)(s:D.State):Int:=bif F2 m then(bif CR m s then 0 else 41) else 40
structure Lim (m:D.Model):Prop where
 room:∀ k:Int,0<=k->k<m.Shapes.length->(BW m k).Room<=16
 locs:∀ k:Int,0<=k->k<m.Procs.length->(AN m k).Locs.length<=256
 one:1<=m.Procs.length
 clp:m.Claim<m.Procs.length
theorem CB {m:D.Model}(h:F2 m=true):BS m=(0,0)/\Fy m=-1/\H5 m=-1:=by
 unfold F2 Eh at h
 have h1:∀ n (f:Nat->Bool),-1<=HB n f:=fun n f=>Ahd
 have hf:=h1 m.Procs.length fun i=>!De m i
 have hp:=h1 m.Procs.length fun i:Nat=>CW m i
 cases b1:decide (0<(BS m).1) with
 | true=>rw[b1,cond_true]at h;simp at h
 | false =>
  rw[b1,cond_false]at h
  cases b2:decide (0<=Fy m) with
  | true=>rw[b2,cond_true]at h;simp at h
  | false =>
   rw[b2,cond_false]at h
   cases b3:decide (16<El m m.Procs.length) with
   | true=>rw[b3,cond_true]at h;simp at h
   | false =>
    rw[b3,cond_false]at h
    cases b4:decide (0<=H5 m) with
    | true=>rw[b4,cond_true]at h;simp at h
    | false =>
     have:=of_decide_eq_false b2
     have:=of_decide_eq_false b4
     refine⟨?_,by show HB _ _=-1;unfold Fy at *;omega,by show HB _ _=-1;unfold H5 at *;omega⟩
     have b1:=of_decide_eq_false b1
     unfold BS at b1 ⊢
     generalize (decide (128<m.Globals.length)||!decide (m.Init.length=m.Globals.length))=c1 at b1 ⊢
     generalize decide (0<=Ex m.Globals m.Init)=c2 at b1 ⊢
     generalize (decide (32<m.Shapes.length)||decide (32<m.Chans.length))=c3 at b1 ⊢
     generalize decide (0<=FY m)=c4 at b1 ⊢
     generalize decide (0<=Iq m)=c5 at b1 ⊢
     generalize (decide (m.Procs.length<1)||(decide (16<m.Procs.length)||(decide (m.Claim < -1)||(decide ((m.Procs.length:Int)<=m.Claim)||decide (4096<m.Exprs.length)))))=c6 at b1 ⊢
     generalize decide (0<=Ij m)=c7 at b1 ⊢
     cases c1<;>cases c2<;>cases c3<;>cases c4<;>cases c5<;>cases c6<;>cases c7<;>simp at b1 ⊢
structure AhA (m:D.Model):Prop where
 globals:m.Globals.length<=128
 init:m.Init.length=m.Globals.length
 types:Ex m.Globals m.Init<0
 shapes:m.Shapes.length<=32
 chans:m.Chans.length<=32
 shape:∀ i,i<m.Shapes.length->CF (m.Shapes.getD i default)=true
 chan:∀ i,i<m.Chans.length->inP m.Shapes.length (m.Chans.getD i 0)=true
 procs:1<=m.Procs.length/\m.Procs.length<=16
 claim:-1<=m.Claim/\m.Claim<m.Procs.length
 exprs:m.Exprs.length<=4096
theorem RB {m:D.Model}(h:BS m=(0,0)):AhA m:=by
 unfold BS at h
 cases c1:(decide (128<m.Globals.length)||!decide (m.Init.length=m.Globals.length)) with
 | true=>grind
 | false =>
 cases c2:decide (0<=Ex m.Globals m.Init) with
 | true=>grind
 | false =>
 cases c3:(decide (32<m.Shapes.length)||decide (32<m.Chans.length)) with
 | true=>grind
 | false =>
 cases c4:decide (0<=FY m) with
 | true=>grind
 | false =>
 cases c5:decide (0<=Iq m) with
 | true=>grind
 | false =>
 cases c6:(decide (m.Procs.length<1)||(decide (16<m.Procs.length)||(decide (m.Claim < -1)||(decide ((m.Procs.length:Int)<=m.Claim)||decide (4096<m.Exprs.length))))) with
 | true=>grind
 | false =>
 simp only[Bool.or_eq_false_iff,decide_eq_false_iff_not,Bool.not_eq_false',decide_eq_true_eq]at c1 c2 c3 c4 c5 c6
 exact⟨by omega,c1.2,by omega,by omega,by omega,E5 (f:=fun i=>CF (m.Shapes.getD i default)) (by unfold FY at c4;omega),E5 (f:=fun i=>inP m.Shapes.length (m.Chans.getD i 0)) (by unfold Iq at c5;omega),by omega,by omega,by omega⟩
theorem EJ {m:D.Model}(h:Fy m=-1):∀ i,i<m.Procs.length->Eg (m.Procs.getD i default)=true/\Ef (m.Procs.getD i default)=true:=fun i hi=>by
 have:=E5 (f:=fun i=>!De m i) (by unfold Fy at h;omega) i hi
 unfold De at this
 grind
theorem XD {m:D.Model}(h:F2 m=true):Lim m:=by
 obtain⟨h1,h2,_⟩:=CB h
 have ht:=RB h1
 refine⟨fun k h0 hk=>?_,fun k h0 hk=>?_,ht.procs.1,ht.claim.2⟩
 ·have:=ht.shape k.toNat (by omega)
  unfold CF at this
  simp only[Bool.and_eq_true,decide_eq_true_eq]at this
  exact this.1.1.1.2
 ·have:=(EJ h2 k.toNat (by omega)).2
  unfold Ef at this
  simp only[Bool.and_eq_true,decide_eq_true_eq]at this
  exact this.1.1.1.2
structure Fit (s:D.State):Prop where
 g:s.Globals.length<=128
 c:s.Chans.length<=32
 q:∀ c∈s.Chans,c.Queue.length<=16/\∀ x∈c.Queue,x.length<=8
 p:s.Procs.length<=16
 f:∀ p∈s.Procs,p.Frame.length<=128
theorem D7 {t:List D.Type}{l:List Int}(h:Bi t l=true):l.length=t.length:=by
 unfold Bi at h
 grind
theorem XR {m:D.Model}{s:D.State}(hmay:F2 m=true)(h:CR m s=true):Fit s:=by
 have hm:=XD hmay
 obtain⟨ht1,ht2,_⟩:=CB hmay
 have ht:=RB ht1
 unfold CR at h
 simp only[Bool.and_eq_true]at h
 obtain⟨⟨⟨h1,h2⟩,h3⟩,h4⟩:=h
 unfold GB at h1
 simp only[Bool.and_eq_true,decide_eq_true_eq]at h1
 obtain⟨⟨⟨⟨⟨⟨g1,g2⟩,g3⟩,g4⟩,g5⟩,g6⟩,g7⟩:=h1
 refine⟨?_,g2,fun c hc=>?_,g3,fun p hp=>?_⟩
 ·rw[D7 g1];exact ht.globals
 ·have h:=(Co (d:=default) (f:=fun c=>CQ m c)).1 h2 c hc
  unfold CQ at h
  simp only[Bool.and_eq_true,decide_eq_true_eq]at h
  have hi:=B1.1 h.1.1
  have hr:=hm.room _ hi.1 hi.2
  refine⟨by omega,fun x hx=>?_⟩
  have hq:=(Co (d:=[]) (f:=fun x=>Bi (BW m c.Shape).Fields x)).1 h.2 x hx
  rw[D7 hq]
  have:=ht.shape c.Shape.toNat (by omega)
  unfold CF at this
  simp only[Bool.and_eq_true,decide_eq_true_eq]at this
  exact this.1.2
 ·have h:=(Co (d:=default) (f:=fun c=>AT m c)).1 h3 p hp
  unfold AT Cu at h
  simp only[Bool.and_eq_true,decide_eq_true_eq]at h
  rw[D7 h.2]
  have:=(EJ ht2 p.Type_.toNat (by omega)).1
  unfold Eg at this
  simp only[Bool.and_eq_true,decide_eq_true_eq]at this
  exact this.1.1.1.1.1.1.1.1
def Kj (f:FuncId):Shp:=bif Nat.beq f 20 then ZU else Bx f
def ME : Ann:={ keep:=fun
  | [0,1,0,1,1]=>[0,12,13,14]
  | _=>[] }
def Jm : Ann:={ keep:=fun
  | [0,1,0,1,1]=>[2,3,32,33,34]
  | _=>[] }
def GI : Ann:={ keep:=fun
  | [0,1,0,1,1]=>[2,3,51,52,53]
  | [0,1,0,1,1,1]=>[2,3,63,64,65]
  | _=>[] }
def NC (t:List D.Type)(l:List Int)(k:Int):St:=Av [(0,Az true t),(12,Ad true l),(13,Aa l.length),(14,Aa k)] []
def JA (m:D.Model)(c:D.Chan)(k:Int):St:=Av [(2,.bp 0 0),(3,.bp 1 0),(32,Gc true c.Queue),(33,Aa c.Queue.length),(34,Aa k)] [.box (Af m),.box (Aw c)]
def NP (m:D.Model)(s:D.State)(k:Int):St:=Av [(2,.bp 0 0),(3,.bp 1 0),(51,AV false s.Chans),(52,Aa s.Chans.length),(53,Aa k)] [.box (Af m),.box (J9 false s)]
def NO (m:D.Model)(s:D.State)(k:Int):St:=Av [(2,.bp 0 0),(3,.bp 1 0),(63,Ay false s.Procs),(64,Aa s.Procs.length),(65,Aa k)] [.box (Af m),.box (J9 false s)]
set_option maxRecDepth 100000
theorem ZF (b:Bool)(t:List D.Type)(l:List Int):(fc Kj ME Tryz.f69 [] (Ac b)).goal (St.init [] [Az true t,Ad true l]) =
  (BB ((↑t.length:Int) != (↑l.length:Int)) (LQ (Ac false) (Ac b)) (Aq (fc Kj ME Tryz.f69 [] (Ac b)) [1,1,0,1,0] (NC t l (0:Int)))):=by kernel_rfl
theorem U0 (b:Bool)(m:D.Model)(c:D.Chan):(fc Kj Jm Tryz.f70 [] (Ac b)).goal (St.init [] [.agg (Af m),.agg (Aw c)]) =
  (((true&&(bif decide (c.Shape<0) then true else decide (c.Shape>=(↑m.Shapes.length:Int)))==false)=true->inX c.Shape m.Shapes.length)/\BB (bif bif decide (c.Shape<0) then true else decide (c.Shape>=(↑m.Shapes.length:Int)) then true else decide ((↑c.Queue.length:Int) > (m.Shapes.getD c.Shape.toNat default).Room)) (LQ (Ac false) (Ac b)) (Aq (fc Kj Jm Tryz.f70 [] (Ac b)) [1,1,0,1,0] (JA m c (0:Int)))):=by kernel_rfl
theorem Ud (b:Bool)(m:D.Model)(p:D.Process):(fc Kj A5 Tryz.f71 [] (Ac b)).goal (St.init [] [.agg (Af m),.agg (AB p)]) =
  (BB (bif bif decide (p.Type_<0) then true else decide (p.Type_>=(↑m.Procs.length:Int)) then true else p.Type_==m.Claim) (LQ (Ac false) (Ac b)) (inX p.Type_ m.Procs.length/\∃ (y:Bool),((true&&(bif bif decide (p.Loc>=0) then decide (p.Loc<(↑(m.Procs.getD p.Type_.toNat default).Locs.length:Int)) else false then p.Prio==(m.Procs.getD p.Type_.toNat default).Prio else false)==true)=true->VC 69 [Az true (m.Procs.getD p.Type_.toNat default).Frame,Ad true p.Frame] (Ac y))/\LQ (Ac (bif bif bif decide (p.Loc>=0) then decide (p.Loc<(↑(m.Procs.getD p.Type_.toNat default).Locs.length:Int)) else false then p.Prio==(m.Procs.getD p.Type_.toNat default).Prio else false then y else false)) (Ac b))):=by kernel_rfl
theorem Vz (b:Bool)(m:D.Model)(s:D.State):(fc Kj GI Tryz.f47 [] (Ac b)).goal (St.init [] [.agg (Af m),.agg (J9 false s)]) =
  (∃ (y:Bool),VC 69 [Az true m.Globals,Ad true s.Globals] (Ac y)/\BB (bif bif bif bif bif bif !y then true else decide ((↑s.Chans.length:Int) > 32) then true else decide ((↑s.Procs.length:Int) > 16) then true else decide (s.Last<0) then true else decide (s.Last>=16) then true else decide (s.Alone<(-1:Int)) then true else decide (s.Alone>=(↑s.Procs.length:Int))) (LQ (Ac false) (Ac b)) (Aq (fc Kj GI Tryz.f47 [] (Ac b)) [1,1,0,1,0] (NP m s (0:Int)))):=by kernel_rfl
theorem AgQ (b:Bool)(m:D.Model):(fc Kj A5 Tryz.f46 [] (Ac b)).goal (St.init [] [.agg (Af m)]) =
  (∃ (y:Int × Int × Int),VC 28 [VV.agg (Af m)] (VV.tup [Aa y.fst,Aa y.snd.fst,Aa y.snd.snd])/\LQ (Ac (y.fst==0)) (Ac b)):=by kernel_rfl
theorem Ta (r:Int)(m:D.Model)(s:D.State):(fc Kj A5 Tryz.f20 [] (Aa r)).goal (St.init [] [.agg (Af m),.agg (Ae s)]) =
  (∃ (y:Bool),VC 46 [VV.agg (Af m)] (Ac y)/\BB (!y) (LQ (Aa 40) (Aa r)) (∃ (y:Bool),VC 47 [VV.agg (Af m),VV.agg (Ae s)] (Ac y)/\BB (!y) (LQ (Aa 41) (Aa r)) (LQ (Aa 0) (Aa r)))):=by kernel_rfl
theorem Vp (b:Bool)(t:List D.Type)(l:List Int)(k:Int)(J:St->Prop):((fc Kj ME Tryz.f69 [] (Ac b)).loop [1,1,0,1,0] J).goal (NC t l k) =
  (BB (decide (k<(↑l.length:Int))) (inX k l.length/\inX k t.length/\∃ (y:Bool),VC 117 [VV.agg (Bs (t.getD k.toNat default)),Aa (l.getD k.toNat 0)] (Ac y)/\BB (!y) (LQ (Ac false) (Ac b)) (J (NC t l (IntKind.i64.wrap (k+(1:Int)))))) (LQ (Ac true) (Ac b))):=by kernel_rfl
theorem Su (b:Bool)(m:D.Model)(c:D.Chan)(k:Int)(J:St->Prop):((fc Kj Jm Tryz.f70 [] (Ac b)).loop [1,1,0,1,0] J).goal (JA m c k) =
  (BB (decide (k<(↑c.Queue.length:Int))) (inX k c.Queue.length/\inX c.Shape m.Shapes.length/\∃ (y:Bool),VC 69 [Az true (m.Shapes.getD c.Shape.toNat default).Fields,Ad true (c.Queue.getD k.toNat [])] (Ac y)/\BB (!y) (LQ (Ac false) (Ac b)) (J (JA m c (IntKind.i64.wrap (k+(1:Int)))))) (LQ (Ac true) (Ac b))):=by kernel_rfl
theorem S9 (b:Bool)(m:D.Model)(s:D.State)(k:Int)(J:St->Prop):((fc Kj GI Tryz.f47 [] (Ac b)).loop [1,1,0,1,0] J).goal (NP m s k) =
  (BB (decide (k<(↑s.Chans.length:Int))) (inX k s.Chans.length/\∃ (y:Bool),VC 70 [VV.agg (Af m),VV.agg (Aw (s.Chans.getD k.toNat default))] (Ac y)/\BB (!y) (LQ (Ac false) (Ac b)) (J (NP m s (IntKind.i64.wrap (k+(1:Int)))))) (Aq (fc Kj GI Tryz.f47 [] (Ac b)) [1,1,1,0,1,0] (NO m s (0:Int)))):=by kernel_rfl
theorem S8 (b:Bool)(m:D.Model)(s:D.State)(k:Int)(J:St->Prop):((fc Kj GI Tryz.f47 [] (Ac b)).loop [1,1,1,0,1,0] J).goal (NO m s k) =
  (BB (decide (k<(↑s.Procs.length:Int))) (inX k s.Procs.length/\∃ (y:Bool),VC 71 [VV.agg (Af m),VV.agg (AB (s.Procs.getD k.toNat default))] (Ac y)/\BB (!y) (LQ (Ac false) (Ac b)) (J (NO m s (IntKind.i64.wrap (k+(1:Int)))))) (BB (decide (m.Claim<0)) (LQ (Ac (s.Claim==(-1:Int))) (Ac b)) (((true&&decide (s.Claim>=0)==true)=true->inX m.Claim m.Procs.length)/\LQ (Ac (bif decide (s.Claim>=0) then decide (s.Claim<(↑(m.Procs.getD m.Claim.toNat default).Locs.length:Int)) else false)) (Ac b)))):=by kernel_rfl
end Go.Proofs.YtlhajmkjfcbhnaaGreat
namespace Go.Proofs.YtlhajmkjfcbhnaaGreat
open Go.RowKit
theorem AgV {xs ys:List VV}(hl:ys.length=xs.length)(h:∀ (j:Nat) x y,xs[j]?=some x->ys[j]?=some y->leS x y):leS (.agg xs) (.agg ys):=by
 intro w E m v hE hv
 obtain⟨vs,rfl,h1,h2⟩:=hv.agg_inv
 refine .agg (h1.trans hl.symm) fun j y hy=>?_
 have hj:j<xs.length:=by grind
 exact h j _ y (List.getElem?_eq_getElem hj) hy w E m _ hE (h2 j _ (List.getElem?_eq_getElem hj))
theorem B0 {k:Nat}{P:Nat->Prop}(hI:∀ i,i<k->P i)(h:P k):∀ i,i<k+1->P i:=(by grind)
def Len (n:Nat):Prop:=n<=1099511627776
theorem Kh {t:List D.Type}{l:List Int}(hl:Len l.length):Al Tryz.prog 69 [] [Az true t,Ad true l] [] (Ac (Bi t l)):=by
 unfold Len at hl
 refine Ag Ai Aj Tryz.func69 (by kernel_rfl) rfl (ZF _ t l) ⟨fun h=>Ap ?_,fun h=>?_⟩
 ·unfold Bi
  grind
 ·have hlen:t.length=l.length:=by simp at h;omega
  have e:Bi t l=Cd l.length fun i=>Cx (t.getD i default) (l.getD i 0):=by unfold Bi;grind
  rw[e]
  refine AH Ai Aj l.length (fun k=>NC t l k) (fun k=>∀ i,i<k->Cx (t.getD i default) (l.getD i 0)=true) (by kernel_rfl) (by kernel_rfl) (fun i hi=>by omega) ?_
  intro k hk hI J next
  refine AY.raw (Vp _ t l k J) ⟨fun hlt=>?_,fun hge=>Ap ?_⟩
  ·have hlt':k<l.length:=by have:=AG hlt;omega
   refine⟨⟨by omega,by omega⟩,⟨by omega,by omega⟩,Cx (t.getD k default) (l.getD k 0),Mw _ _,fun hy=>Ap ?_,fun hy=>next _ hlt' (B0 hI (by simpa using hy)) (Up.of ?_)⟩
   ·grind [BE]
   grind [Ak]
  grind [AI,AK]
structure AfR (c:D.Chan):Prop where
 q:Len c.Queue.length
 m:∀ x∈c.Queue,Len x.length
theorem Ss {m:D.Model}{c:D.Chan}(hc:AfR c):Al Tryz.prog 70 [] [.agg (Af m),.agg (Aw c)] [] (Ac (CQ m c)):=by
 have hq:=hc.q
 unfold Len at hq
 refine Ag Ai Aj Tryz.func70 (by kernel_rfl) rfl (U0 _ m c) ⟨fun h=>?_,fun h=>Ap ?_,fun h=>?_⟩
 ·simp at h;omega
 ·symm;rw[Bool.eq_false_iff];intro hcc
  unfold CQ at hcc
  simp only[Bool.and_eq_true,decide_eq_true_eq]at hcc
  have:=B1.1 hcc.1.1
  have hr:(BW m c.Shape).Room=(m.Shapes.getD c.Shape.toNat default).Room:=rfl
  grind
 ·have hs:0<=c.Shape/\c.Shape<m.Shapes.length/\(c.Queue.length:Int)<=(BW m c.Shape).Room:=by
   have hr:(BW m c.Shape).Room=(m.Shapes.getD c.Shape.toNat default).Room:=rfl
   grind
  have e:CQ m c=Cd c.Queue.length fun i=>Bi (BW m c.Shape).Fields (c.Queue.getD i []):=by
   unfold CQ
   grind [B1]
  rw[e]
  refine AH Ai Aj c.Queue.length (fun k=>JA m c k) (fun k=>∀ i,i<k->Bi (BW m c.Shape).Fields (c.Queue.getD i [])=true) (by kernel_rfl) (by kernel_rfl) (fun i hi=>by omega) ?_
  intro k hk hI J next
  refine AY.raw (Su _ m c k J) ⟨fun hlt=>?_,fun hge=>Ap ?_⟩
  ·have hlt':k<c.Queue.length:=by have:=AG hlt;omega
   refine⟨⟨by omega,by omega⟩,⟨hs.1,hs.2.1⟩,Bi (BW m c.Shape).Fields (c.Queue.getD k []),Kh (hc.m _ (An hlt')),fun hy=>Ap ?_,fun hy=>next _ hlt' (B0 hI (by simpa using hy)) (Up.of ?_)⟩
   ·grind [BE]
   grind [Ak]
  grind [AI,AK]
theorem R0 {m:D.Model}{p:D.Process}(hp:Len p.Frame.length):Al Tryz.prog 71 [] [.agg (Af m),.agg (AB p)] [] (Ac (AT m p)):=by
 have hpr:(AN m p.Type_)=m.Procs.getD p.Type_.toNat default:=rfl
 refine Ag Ai Aj Tryz.func71 (by kernel_rfl) rfl (Ud _ m p) ⟨fun h=>Ap ?_,fun h=>⟨?_,Bi (AN m p.Type_).Frame p.Frame,fun _=>Kh hp,Ap ?_⟩⟩
 ·unfold AT Cu
  grind
 ·simp at h;omega
 ·unfold AT Cu inP
  grind
structure F4 (s:D.State):Prop where
 g:Len s.Globals.length
 c:Len s.Chans.length
 p:Len s.Procs.length
 cs:∀ c∈s.Chans,AfR c
 ps:∀ p∈s.Procs,Len p.Frame.length
theorem RC {m:D.Model}{s:D.State}(hs:F4 s)(hcl:m.Claim<m.Procs.length):Al Tryz.prog 47 [] [.agg (Af m),.agg (J9 false s)] [] (Ac (CR m s)):=by
 have hc:=hs.c
 have hp:=hs.p
 unfold Len at hc hp
 have ht:(bif bif bif bif bif bif !(Bi m.Globals s.Globals) then true else decide ((s.Chans.length:Int) > 32) then true else decide ((s.Procs.length:Int) > 16) then true else decide (s.Last<0) then true else decide (s.Last>=16) then true else decide (s.Alone<(-1:Int)) then true else decide (s.Alone>=(s.Procs.length:Int)))=!(GB m s):=by
  unfold GB
  grind
 refine Ag Ai Aj Tryz.func47 (by kernel_rfl) rfl (Vz _ m s) ⟨Bi m.Globals s.Globals,Kh hs.g,?_⟩
 rw[ht]
 have e0:CR m s=(GB m s&&(Cd s.Chans.length fun i=>CQ m (s.Chans.getD i default))&&(Cd s.Procs.length fun i=>AT m (s.Procs.getD i default))&&Et m s):=rfl
 generalize CR m s=b at e0 ⊢
 refine⟨fun h=>Ap ?_,fun h=>?_⟩
 ·grind
 rw[show GB m s=true by simpa using h,Bool.true_and]at e0
 refine AH Ai Aj s.Chans.length (fun k=>NP m s k) (fun k=>∀ i,i<k->CQ m (s.Chans.getD i default)=true) (by kernel_rfl) (by kernel_rfl) (fun i hi=>by omega) ?_
 intro k hk hI J next
 refine AY.raw (S9 _ m s k J) ⟨fun hlt=>?_,fun hge=>?_⟩
 ·have hlt':k<s.Chans.length:=by have:=AG hlt;omega
  refine⟨⟨by omega,by omega⟩,CQ m (s.Chans.getD k default),Ss (hs.cs _ (An hlt')),fun hy=>Ap ?_,fun hy=>next _ hlt' (B0 hI (by simpa using hy)) (Up.of ?_)⟩
  ·grind [BE]
  grind [Ak]
 have hge':s.Chans.length<=k:=by have:=AI hge;omega
 rw[(AK (n:=s.Chans.length) (f:=fun i=>CQ m (s.Chans.getD i default))).2 fun i hi=>hI i (by omega),Bool.true_and]at e0
 clear hI next
 refine AH Ai Aj s.Procs.length (fun k=>NO m s k) (fun k=>∀ i,i<k->AT m (s.Procs.getD i default)=true) (by kernel_rfl) (by kernel_rfl) (fun i hi=>by omega) ?_
 intro k hk hI J next
 refine AY.raw (S8 _ m s k J) ⟨fun hlt=>?_,fun hge=>?_⟩
 ·have hlt':k<s.Procs.length:=by have:=AG hlt;omega
  refine⟨⟨by omega,by omega⟩,AT m (s.Procs.getD k default),R0 (hs.ps _ (An hlt')),fun hy=>Ap ?_,fun hy=>next _ hlt' (B0 hI (by simpa using hy)) (Up.of ?_)⟩
  ·grind [BE]
  grind [Ak]
 have hge':s.Procs.length<=k:=by have:=AI hge;omega
 rw[(AK (n:=s.Procs.length) (f:=fun i=>AT m (s.Procs.getD i default))).2 fun i hi=>hI i (by omega),Bool.true_and]at e0
 unfold Et at e0
 refine⟨fun h2=>Ap ?_,fun h2=>⟨fun _=>⟨?_,hcl⟩,Ap ?_⟩⟩
 ·grind
 ·grind
 ·rw[h2,cond_false]at e0
  rw[e0,BD]<;>rfl
theorem S7 {m:D.Model}{s:D.State}(hs:F4 s)(hcl:m.Claim<m.Procs.length):Al Tryz.prog 47 [] [.agg (Af m),.agg (Ae s)] [] (Ac (CR m s)):=by
 refine(RC hs hcl).frz rfl fun j x y hx hy=>?_
 match j,hx,hy with
 | 0,hx,hy=>grind [List.getElem?_cons_zero,Option.some.injEq,E3]
 | 1,hx,hy =>
  simp only[List.getElem?_cons_succ,List.getElem?_cons_zero,Option.some.injEq]at hx hy
  subst hx hy
  refine AgV rfl fun j x y hx hy=>?_
  match j,hx,hy with
  | 0,hx,hy=>simp only[Ae,J9,List.getElem?_cons_zero,Option.some.injEq]at hx hy;subst hx hy;exact E3 _
  | 1,hx,hy=>simp only[Ae,J9,List.getElem?_cons_succ,List.getElem?_cons_zero,Option.some.injEq]at hx hy;subst hx hy;exact Se
  | 2,hx,hy=>simp only[Ae,J9,List.getElem?_cons_succ,List.getElem?_cons_zero,Option.some.injEq]at hx hy;subst hx hy;exact Se
  | 3,hx,hy=>simp only[Ae,J9,List.getElem?_cons_succ,List.getElem?_cons_zero,Option.some.injEq]at hx hy;subst hx hy;exact E3 _
  | 4,hx,hy=>simp only[Ae,J9,List.getElem?_cons_succ,List.getElem?_cons_zero,Option.some.injEq]at hx hy;subst hx hy;exact E3 _
  | 5,hx,hy=>simp only[Ae,J9,List.getElem?_cons_succ,List.getElem?_cons_zero,Option.some.injEq]at hx hy;subst hx hy;exact E3 _
  | j+6,hx,hy=>simp[Ae]at hx
 | j+2,hx,hy=>simp at hx
theorem AeV {m:D.Model}(hw:A2 m):Al Tryz.prog 46 [] [.agg (Af m)] [] (Ac (F2 m)) :=
 Ag Ai Aj Tryz.func46 (by kernel_rfl) rfl (AgQ _ m) ⟨Eh m,Pr hw,Ap (ieq _ _)⟩
theorem RE {m:D.Model}{s:D.State}(hw:A2 m)(hs:F4 s)(hcl:F2 m=true->m.Claim<m.Procs.length):Al Tryz.prog 20 [] [.agg (Af m),.agg (Ae s)] [] (Aa (B3 m s)):=by
 refine Ag Ai Aj Tryz.func20 (by kernel_rfl) rfl (Ta _ m s) ⟨F2 m,AeV hw,fun h=>Ba ?_,fun h=>⟨CR m s,S7 hs (hcl (by simpa using h)),fun h2=>Ba ?_,fun h2=>Ba ?_⟩⟩
 ·unfold B3;grind
 ·unfold B3;grind
 ·unfold B3;grind
theorem Fit.small {s:D.State}(h:Fit s):F4 s:=by
 have hg:=h.g
 have hc:=h.c
 have hp:=h.p
 refine⟨by unfold Len;omega,by unfold Len;omega,by unfold Len;omega,fun c hc=>⟨by have:=(h.q c hc).1;unfold Len;omega,fun x hx=>by have:=(h.q c hc).2 x hx;unfold Len;omega⟩,fun p hp=>by have:=h.f p hp;unfold Len;omega⟩
theorem Ac3 {s:D.State}(h:SD s):F4 s:=by
 have hg:=h.Globals.1
 have hc:=h.Chans.1
 have hp:=h.Procs.1
 refine⟨by unfold Len;omega,by unfold Len;omega,by unfold Len;omega,fun c hc=>⟨by have:=(h.Chans.2 c hc).Queue.1;unfold Len;omega,fun x hx=>by have:=((h.Chans.2 c hc).Queue.2 x hx).1;unfold Len;omega⟩,fun p hp=>by have:=(h.Procs.2 p hp).Frame.1;unfold Len;omega⟩
theorem X5 {m:D.Model}{s:D.State}(h:B3 m s=0):F2 m=true/\CR m s=true:=by
 unfold B3 at h
 grind
theorem R6 {w w':World}{base:Nat}{e:TypeId}{size:Nat}{v:Value}{n:Nat}{xs:List Value}(h:w.ownsRow base e size v n xs)
  (hs:∀ k,v.ownBlock=some k->w'.heap[k]?=w.heap[k]?):w'.ownsRow base e size v n xs:=by
 refine⟨h.1,?_⟩
 rcases h.2 with hn | ⟨g,cap,cur,rfl,hb,hg,rest⟩
 ·exact .inl hn
 ·exact .inr ⟨g,cap,cur,rfl,hb,by rw[hs g rfl];exact hg,rest⟩
theorem UH {P:Program}{t:TypeId}{z:Value}{s b:Nat}(h:(P.info? t).map (fun i=>(i.zero,i.size,i.bytes))=some (some z,s,b)):∃ i,P.info? t=some i/\i.zero=some z/\i.size=s/\i.bytes=b:=by
 cases hi:P.info? t with
 | none=>rw[hi]at h;cases h
 | some i=>rw[hi]at h;simp only[Option.map_some,Option.some.injEq,Prod.mk.injEq]at h;exact⟨i,rfl,h⟩
def Ajf : Shp:={ α:=ByteArray,enc:=fun b=>([],AS b) }
def AiS (f:FuncId):Shp :=
   Kj f
end Go.Proofs.YtlhajmkjfcbhnaaGreat
namespace Go.Proofs.YtlhajmkjfcbhnaaGreat
end Go.Proofs.YtlhajmkjfcbhnaaGreat
namespace Go.Proofs.YtlhajmkjfcbhnaaGreat
open Go.RowKit
def Ih (b:Int)(s:Bool)(v:Int):Int :=
 if 1<=b/\b<=32 then(if s then(v+2 ^ b.toNat / 2) % 2 ^ b.toNat - 2 ^ b.toNat / 2 else v % 2 ^ b.toNat) else 0
theorem Ag2 (b v:Int)(s:Bool)(h:b<1∨32<b):Ih b s v=0:=by
 unfold Ih;rw[if_neg (by omega)]
theorem Gh (r:BitVec 64):IntKind.i64.wrap (r.toNat:Int)=r.toInt:=by
 rw[IntKind.wrap_i64,BitVec.toInt_eq_toNat_cond]
 have:=r.isLt
 split<;>omega
theorem Gi (r:BitVec 32):IntKind.i32.wrap (r.toNat:Int)=r.toInt:=by
 rw[IntKind.wrap_i32,BitVec.toInt_eq_toNat_cond]
 have:=r.isLt
 split<;>omega
theorem Sl (b v:Int)(h1:1<=b)(h2:b<=32)(s:Bool) :
  (if s then(if 2 ^ b.toNat / 2<=v % 2 ^ b.toNat then v % 2 ^ b.toNat - 2 ^ b.toNat else v % 2 ^ b.toNat) else v % 2 ^ b.toNat)=Ih b s v:=by
 have hb:b=1∨b=2∨b=3∨b=4∨b=5∨b=6∨b=7∨b=8∨b=9∨b=10∨b=11∨b=12∨b=13∨b=14∨b=15∨b=16∨b=17∨b=18∨b=19∨b=20∨b=21∨b=22∨b=23∨b=24∨b=25∨b=26∨b=27∨b=28∨b=29∨b=30∨b=31∨b=32:=by omega
 unfold Ih
 cases s
 ·simp[h1,h2]
 ·rcases hb with h | h | h | h | h | h | h | h | h | h | h | h | h | h | h | h | h | h | h | h | h | h | h | h | h | h | h | h | h | h | h | h <;>
   subst h<;>simp<;>split<;>omega
theorem Ad0 (b:Int)(h1:1<=b)(h2:b<=32):(2:Int)<=2 ^ b.toNat/\(2:Int) ^ b.toNat<=4294967296:=by
 obtain⟨m,hm⟩:∃ m:Nat,b.toNat=m+1:=⟨b.toNat - 1,by omega⟩
 rw[hm]
 have hp:2 ^ (m+1)<=2 ^ 32:=Nat.pow_le_pow_right (by decide) (by omega)
 have hq:2 ^ 1<=2 ^ (m+1):=Nat.pow_le_pow_right (by decide) (by omega)
 have ec:(2:Int) ^ (m+1)=((2 ^ (m+1):Nat):Int):=by simp
 rw[ec];omega
theorem AiC (v m:Int)(hm:0<m)(h:v.tmod m<0):v.tmod m+m=v % m:=by
 have h0:=Int.tmod_eq_emod (a:=v) (b:=m)
 have h1:=Int.emod_nonneg v (b:=m) (by omega)
 have h2:=Int.emod_lt_of_pos v hm
 rw[h0]at h ⊢
 split at h<;>rename_i hc
 ·omega
 ·rw[if_neg hc];omega
theorem AiD (v m:Int)(hm:0<m)(h:0<=v.tmod m):v.tmod m=v % m:=by
 have h0:=Int.tmod_eq_emod (a:=v) (b:=m)
 have h1:=Int.emod_nonneg v (b:=m) (by omega)
 have h2:=Int.emod_lt_of_pos v hm
 rw[h0]at h ⊢
 split at h<;>rename_i hc
 ·rw[if_pos hc];omega
 ·omega
theorem AbS (b v x:Int)(h1:1<=b)(h2:b<=32)(hx:x=v % 2 ^ b.toNat)(h:2 ^ b.toNat / 2<=x):x - 2 ^ b.toNat=Ih b true v:=by
 have:=Sl b v h1 h2 true
 rw[if_pos rfl,← hx,if_pos h]at this;exact this
theorem AbT (b v x:Int)(h1:1<=b)(h2:b<=32)(hx:x=v % 2 ^ b.toNat)(h:x<2 ^ b.toNat / 2):x=Ih b true v:=by
 have:=Sl b v h1 h2 true
 rw[if_pos rfl,← hx,if_neg (by omega)]at this;exact this
theorem AbR (b v x:Int)(h1:1<=b)(h2:b<=32)(hx:x=v % 2 ^ b.toNat):x=Ih b false v:=by
 have:=Sl b v h1 h2 false
 rw[if_neg (by decide),← hx]at this;exact this
theorem Afj (v:Int):Ih 32 true v=wrap32 v:=by
 unfold Ih wrap32;simp
theorem Cy (n:Int):-2147483648<=wrap32 n/\wrap32 n<=2147483647:=by unfold wrap32;omega
theorem L4 {n:Int}(h:-2147483648<=n)(h':n<=2147483647):wrap32 n=n:=by unfold wrap32;omega
theorem Vk (n:Int):wrap32 n % 4294967296=n % 4294967296:=by unfold wrap32;omega
theorem Zu {m n:Int}(h:m % 4294967296=n % 4294967296):wrap32 m=wrap32 n:=by unfold wrap32;omega
theorem Af0 (a b:Int):wrap32 (wrap32 a*b)=wrap32 (a*b):=Zu (by rw[Int.mul_emod,Vk,← Int.mul_emod])
theorem Af6 (x y:Int)(h1:-2147483648<=x)(h2:x<=2147483647):-2147483648<=x.tmod y/\x.tmod y<=2147483647:=by
 by_cases h:0<=x
 ·have a:=Int.tmod_nonneg y h
  have b:x.tmod y<=x:=by
   have:=Int.emod_nonneg
   rw[Int.tmod_eq_emod_of_nonneg h]
   by_cases hy:y=0
   ·subst hy;simp
   ·have hq:x % y=x - y*(x / y):=by have:=Int.emod_def x y;omega
    have:0<=y*(x / y):=by
     rcases Int.lt_or_gt_of_ne hy with hn | hp
     ·exact Int.mul_nonneg_of_nonpos_of_nonpos (by omega) (Int.ediv_nonpos_of_nonneg_of_nonpos h (by omega))
     ·exact Int.mul_nonneg (by omega) (Int.ediv_nonneg h (by omega))
    omega
  omega
 ·have e:x.tmod y=-((-x).tmod y):=by rw[Int.neg_tmod];omega
  have hx:0<=-x:=by omega
  have a:=Int.tmod_nonneg y hx
  have b:(-x).tmod y<=-x:=by
   rw[Int.tmod_eq_emod_of_nonneg hx]
   by_cases hy:y=0
   ·subst hy;simp
   ·have hq:-x % y=-x - y*(-x / y):=by have:=Int.emod_def (-x) y;omega
    have:0<=y*(-x / y):=by
     rcases Int.lt_or_gt_of_ne hy with hn | hp
     ·exact Int.mul_nonneg_of_nonpos_of_nonpos (by omega) (Int.ediv_nonpos_of_nonneg_of_nonpos hx (by omega))
     ·exact Int.mul_nonneg (by omega) (Int.ediv_nonneg hx (by omega))
    omega
  omega
def Hs (b:Bool):Int:=if b then 1 else 0
def Dr (a n:Int):Int:=if 0<=n then wrap32 (a*2 ^ min n.toNat 32) else a / 2 ^ min (-n).toNat 32
def K9 (op a b:Int):Int :=
 if op=6 then wrap32 (wrap32 a*wrap32 b)
 else if op=7 then(if wrap32 b=0 then 0 else wrap32 ((wrap32 a).tdiv (wrap32 b)))
 else if op=8 then(if wrap32 b=0 then 0 else(wrap32 a).tmod (wrap32 b))
 else if op=9 then wrap32 (wrap32 a+wrap32 b)
 else if op=10 then wrap32 (wrap32 a - wrap32 b)
 else if op=11 then Dr (wrap32 a) (wrap32 b)
 else if op=12 then Dr (wrap32 a) (-wrap32 b)
 else if op=13 then Hs (decide (wrap32 a<wrap32 b))
 else if op=14 then Hs (decide (wrap32 a<=wrap32 b))
 else if op=15 then Hs (decide (wrap32 b<wrap32 a))
 else if op=16 then Hs (decide (wrap32 b<=wrap32 a))
 else if op=17 then Hs (wrap32 a==wrap32 b)
 else if op=18 then Hs (wrap32 a != wrap32 b)
 else if op=19 then bits .and .i32 (wrap32 a) (wrap32 b)
 else if op=20 then bits .xor .i32 (wrap32 a) (wrap32 b)
 else if op=21 then bits .or .i32 (wrap32 a) (wrap32 b)
 else 0
def Vr (op b:Int):Int :=
 if (op=7∨op=8)/\wrap32 b=0 then 48 else if 6<=op/\op<=21 then 0 else 42
def R8 (op a:Int):Int :=
 if op=3 then wrap32 (-wrap32 a) else if op=4 then Hs (wrap32 a==0) else if op=5 then -wrap32 a - 1 else 0
def Aif (op:Int):Int:=if op=3∨op=4∨op=5 then 0 else 42
theorem Je (op:BinOp)(hop:op=.and∨op=.or∨op=.xor)(a b:Int):-2147483648<=bits op .i32 a b/\bits op .i32 a b<=2147483647:=by
 rcases hop with rfl | rfl | rfl
 all_goals
  unfold bits
  simp only[]
  rw[IntKind.wrap_i32];omega
theorem CV (n:Int)(h1:-2147483648<=n)(h2:n<=2147483647):(BitVec.ofInt 32 n).signExtend 64=BitVec.ofInt 64 n:=by
 apply BitVec.eq_of_toInt_eq
 rw[BitVec.toInt_signExtend_of_le (by decide),BitVec.toInt_ofInt,BitVec.toInt_ofInt]
 have:(n.bmod (2 ^ 32))=n:=Int.bmod_eq_of_le (by omega) (by omega)
 have h3:(n.bmod (2 ^ 64))=n:=Int.bmod_eq_of_le (by omega) (by omega)
 rw[this,h3]
theorem MB (op:BinOp)(hop:op=.and∨op=.or∨op=.xor)(a b:Int)(ha:-2147483648<=a/\a<=2147483647)(hb:-2147483648<=b/\b<=2147483647) :
  bits op .i64 a b=bits op .i32 a b:=by
 rcases hop with rfl | rfl | rfl
 ·show IntKind.i64.wrap ((BitVec.ofInt 64 a &&& BitVec.ofInt 64 b).toNat:Int)=IntKind.i32.wrap ((BitVec.ofInt 32 a &&& BitVec.ofInt 32 b).toNat:Int)
  rw[Gh,Gi,← CV a ha.1 ha.2,← CV b hb.1 hb.2,← BitVec.signExtend_and,BitVec.toInt_signExtend_of_le (by decide)]
 ·show IntKind.i64.wrap ((BitVec.ofInt 64 a ||| BitVec.ofInt 64 b).toNat:Int)=IntKind.i32.wrap ((BitVec.ofInt 32 a ||| BitVec.ofInt 32 b).toNat:Int)
  rw[Gh,Gi,← CV a ha.1 ha.2,← CV b hb.1 hb.2,← BitVec.signExtend_or,BitVec.toInt_signExtend_of_le (by decide)]
 ·show IntKind.i64.wrap ((BitVec.ofInt 64 a ^^^ BitVec.ofInt 64 b).toNat:Int)=IntKind.i32.wrap ((BitVec.ofInt 32 a ^^^ BitVec.ofInt 32 b).toNat:Int)
  rw[Gh,Gi,← CV a ha.1 ha.2,← CV b hb.1 hb.2,← BitVec.signExtend_xor,BitVec.toInt_signExtend_of_le (by decide)]
theorem Tq (a:Int)(k:Nat)(h:32<=k):wrap32 (a*2 ^ k)=0:=by
 have e:(2:Int) ^ k=4294967296*2 ^ (k - 32):=by
  rw[show k=32+(k - 32) by omega,Int.pow_add];simp
 unfold wrap32
 rw[e,← Int.mul_assoc,Int.mul_comm a,Int.mul_assoc]
 omega
theorem YT (a:Int)(k:Nat):wrap32 (a*2 ^ k)=wrap32 (a*2 ^ min k 32):=by
 by_cases h:k<=32
 ·rw[Nat.min_eq_left h]
 ·rw[Nat.min_eq_right (by omega),Tq a k (by omega),Tq a 32 (by omega)]
theorem Tn (a:Int)(k:Nat):(a / 2 ^ k) / 2=a / 2 ^ (k+1):=by
 rw[Int.ediv_ediv_of_nonneg (Int.le_of_lt (Int.pow_pos (by decide))),Int.pow_succ]
theorem ZT (a:Int)(k m:Nat)(c:Int)(hc:c=0∨c=-1)(h:a / 2 ^ k=c)(hm:k<=m):a / 2 ^ m=c:=by
 have e:(2:Int) ^ m=2 ^ k*2 ^ (m - k):=by rw[← Int.pow_add];congr 1;omega
 rw[e,← Int.ediv_ediv_of_nonneg (Int.le_of_lt (Int.pow_pos (by decide))),h]
 have hp:(0:Int)<2 ^ (m - k):=Int.pow_pos (by decide)
 rcases hc with rfl | rfl
 ·simp
 ·rw[Int.neg_one_ediv];have:=Int.sign_eq_one_of_pos hp;omega
theorem AhM (a:Int)(h1:-2147483648<=a)(h2:a<=2147483647):a / 2 ^ 32=0∨a / 2 ^ 32=-1:=by
 have:(2:Int) ^ 32=4294967296:=by decide
 rw[this];omega
theorem YS (a:Int)(k:Nat)(h1:-2147483648<=a)(h2:a<=2147483647):a / 2 ^ k=a / 2 ^ min k 32:=by
 by_cases h:k<=32
 ·rw[Nat.min_eq_left h]
 ·rw[Nat.min_eq_right (by omega)]
  exact ZT a 32 k _ (AhM a h1 h2) rfl (by omega)
theorem AhL (a:Int)(k:Nat)(h1:-2147483648<=a)(h2:a<=2147483647):-2147483648<=a / 2 ^ k/\a / 2 ^ k<=2147483647:=by
 induction k with
 | zero=>simp;omega
 | succ k ih=>rw[← Tn];omega
theorem Qr (a n:Int)(h:-2147483648<=a/\a<=2147483647):-2147483648<=Dr a n/\Dr a n<=2147483647:=by
 unfold Dr
 split
 ·exact Cy _
 ·exact AhL a _ h.1 h.2
theorem Afb (a:Int)(h:a<0):(a - 1).tdiv 2=a / 2:=by
 have e:(a - 1).tdiv 2=-((1 - a).tdiv 2):=by rw[← Int.neg_tdiv];congr 1;omega
 rw[e,Int.tdiv_eq_ediv_of_nonneg (by omega)];omega
def Dh (b:Bool):Int × Int:=(bif b then 1 else 0,0)
abbrev Evl:=Int->Int × Int
section
variable (e : D.Env) (ev:Evl)
def C7 (a:Int):Int × Int :=
 bif decide ((ev a).2≠0) then(0,(ev a).2) else bif decide ((ev a).1<1)||decide ((e.S.Chans.length:Int)<(ev a).1) then(0,49) else((ev a).1,0)
def BP (n:Int):D.Chan:=e.S.Chans.getD (n - 1).toNat default
def Ais (op room many:Int):Int × Int :=
 if op=25 then(many,0) else if op=26 then Dh (decide (room<=many)) else if op=28 then Dh (decide (many<room)) else if op=27 then Dh (decide (many=0)) else Dh (decide (0<many))
def Ka (x:D.Expr):Int × Int :=
 bif decide ((C7 e ev x.A).2≠0) then(0,(C7 e ev x.A).2) else Ais x.Op (BW e.M (BP e (C7 e ev x.A).1).Shape).Room (BP e (C7 e ev x.A).1).Queue.length
def XX : Nat->(Nat->Int)->Int
 | 0,_=>0
 | n+1,f=>bif decide (XX n f≠0) then XX n f else f n
def GU (a m:Int):Int × Int:=bif decide (m=1) then ev a else(0,0)
def C8 (args mt:List Int):List Int:=(List.range args.length).map fun i=>(GU ev (args.getD i 0) (mt.getD i 0)).1
def Eu (args mt:List Int)(n:Nat):Int:=XX n fun i=>(GU ev (args.getD i 0) (mt.getD i 0)).2
def EZ (x l mt:List Int):Bool:=decide (mt.length<=x.length)&&decide (mt.length<=l.length)&&Cd mt.length fun i=>!(decide (mt.getD i 0=1)&&decide (x.getD i 0≠l.getD i 0))
def Ph (l mt:List Int)(any:Bool):Nat->List (List Int)->Int
 | _,[]=>-1
 | k,x::q=>bif EZ x l mt then(k:Int) else bif any then Ph l mt any (k+1) q else -1
def Ja (c:D.Chan)(l mt:List Int)(any:Bool):Int:=Ph l mt any 0 c.Queue
def J6 (x:D.Expr):Int × Int :=
 bif decide ((C7 e ev x.A).2≠0) then(0,(C7 e ev x.A).2)
 else bif decide ((BW e.M (BP e (C7 e ev x.A).1).Shape).Fields.length≠x.Args.length) then(0,49)
 else bif decide (Eu ev x.Args x.Match x.Args.length≠0) then(0,Eu ev x.Args x.Match x.Args.length)
 else Dh (decide (0<=Ja (BP e (C7 e ev x.A).1) (C8 ev x.Args x.Match) x.Match (decide (x.N=1))))
def Ci (n:Int):D.Process:=e.S.Procs.getD n.toNat default
def H3 (x:D.Expr):Int × Int :=
 bif decide ((ev x.A).2≠0) then(0,(ev x.A).2)
 else bif decide ((ev x.A).1<0)||(decide ((e.S.Procs.length:Int)<=(ev x.A).1)||(decide (x.Op=38)&&decide ((Ci e (ev x.A).1).Type_≠x.N))) then(0,52)
 else bif decide (x.Op=37) then((Ci e (ev x.A).1).Loc,0) else Dh (decide ((Ci e (ev x.A).1).Loc∈x.Args))
def I5 (x:D.Expr):Int × Int :=
 bif decide ((ev x.A).2≠0) then(0,(ev x.A).2)
 else bif decide (x.Op=24) then(bif decide ((ev x.A).1≠0) then ev x.B else ev x.C)
 else bif (decide (x.Op=22)&&decide ((ev x.A).1=0))||(decide (x.Op=23)&&decide ((ev x.A).1≠0)) then Dh (decide ((ev x.A).1≠0))
 else bif decide ((ev x.B).2≠0) then(0,(ev x.B).2) else Dh (decide ((ev x.B).1≠0))
def Qh (x:D.Expr):Int × Int :=
 bif decide ((ev x.A).2≠0) then(0,(ev x.A).2)
 else bif decide (x.Op=3)||(decide (x.Op=4)||decide (x.Op=5)) then(R8 x.Op (ev x.A).1,Aif x.Op)
 else bif decide ((ev x.B).2≠0) then(0,(ev x.B).2) else(K9 x.Op (ev x.A).1 (ev x.B).1,Vr x.Op (ev x.B).1)
def BT (v:D.Var):Int × Int :=
 bif decide (v.Scope=0) then(bif decide ((e.S.Globals.length:Int)<CM v) then(0,42) else(-1,0))
 else bif decide (v.Scope=1) then(bif decide (e.Pid<0)||decide (((Ci e e.Pid).Frame.length:Int)<CM v) then(0,42) else(e.Pid,0))
 else bif decide ((ev v.Who).2≠0) then(0,(ev v.Who).2)
 else bif decide ((ev v.Who).1<0)||(decide ((e.S.Procs.length:Int)<=(ev v.Who).1)||decide ((Ci e (ev v.Who).1).Type_≠v.Type_)) then(0,52)
 else bif decide (((Ci e (ev v.Who).1).Frame.length:Int)<CM v) then(0,42) else((ev v.Who).1,0)
def Dn : Int->List D.Dim->Int × Int
 | n,[]=>(n,0)
 | n,d::l=>bif decide ((ev d.I).2≠0) then(0,(ev d.I).2) else bif decide ((ev d.I).1<0)||decide (d.Len<=(ev d.I).1) then(0,47) else Dn (n+(ev d.I).1*d.Stride) l
def Bl (x:D.Expr):Int × Int × Int :=
 bif decide (x.Op≠2) then(0,0,42)
 else bif decide ((BT e ev x.V).2≠0) then(0,0,(BT e ev x.V).2)
 else bif decide ((Dn ev x.V.Slot x.V.Dims).2≠0) then(0,0,(Dn ev x.V.Slot x.V.Dims).2) else((BT e ev x.V).1,(Dn ev x.V.Slot x.V.Dims).1,0)
def M8 (x:D.Expr):Int × Int :=
 bif decide ((Bl e ev x).2.2≠0) then(0,(Bl e ev x).2.2)
 else bif decide ((Bl e ev x).1<0) then(e.S.Globals.getD (Bl e ev x).2.1.toNat 0,0) else((Ci e (Bl e ev x).1).Frame.getD (Bl e ev x).2.1.toNat 0,0)
def Fk : Bool:=!(Cd e.S.Procs.length fun i=>!((EA e.M (e.S.Procs.getD i default).Type_).getD (e.S.Procs.getD i default).Loc.toNat default).Progress)
def PI (x:D.Expr):Int × Int :=
 bif decide ((ev x.A).2≠0) then(0,(ev x.A).2)
 else Dh (decide (0<=(ev x.A).1)&&(decide ((ev x.A).1<e.Able.length)&&e.Able.getD (ev x.A).1.toNat false))
def CD (x:D.Expr):Int × Int :=
 if x.Op=1 then(x.N,0) else if x.Op=2 then M8 e ev x else if x.Op=22∨x.Op=23∨x.Op=24 then I5 ev x
 else if x.Op=25∨x.Op=26∨x.Op=27∨x.Op=28∨x.Op=29 then Ka e ev x else if x.Op=30 then J6 e ev x
 else if x.Op=31 then(e.Pid,0) else if x.Op=32 then(e.S.Last,0) else if x.Op=33 then(e.S.Procs.length,0) else if x.Op=34 then Dh (!Fk e)
 else if x.Op=35 then Dh e.Timeout else if x.Op=36 then PI e ev x else if x.Op=37∨x.Op=38 then H3 e ev x else if x.Op=39 then(0,42) else Qh ev x
end
def GD (e:D.Env):Nat->Evl
 | 0,_=>(0,0)
 | n+1,a=>CD e (GD e n) (Ao e.M a)
def D0 (e:D.Env):Evl:=GD e (e.M.Exprs.length - 1)
def B8 (e:D.Env)(x:Int):Int :=
 bif decide (B3 e.M e.S≠0) then B3 e.M e.S
 else bif decide (e.Pid < -1)||(decide ((e.S.Procs.length:Int)<=e.Pid)||(decide (x<0)||decide ((e.M.Exprs.length:Int)<=x))) then 42 else 0
def Bh (e:D.Env)(x:Int):Int × Int:=bif decide (B8 e x≠0) then(0,B8 e x) else CD e (D0 e) (Ao e.M x)
def AC (e:D.Env)(x:Int):Int × Int:=bif decide (B8 e x≠0) then(0,B8 e x) else C7 e (GD e e.M.Exprs.length) x
section
variable {P : Program} {a:Act} {w:World} {Q:Exit->Act->World->Prop}
@[go_sem] theorem Ahv (l:Nat) (J:Act->World->Prop):Exit.jump l J Q .normal a w=Q .normal a w:=rfl
@[go_sem] theorem Aiy (l:Nat) (J:Act->World->Prop) (id:Nat):Exit.jump l J Q (.exit id) a w=Q (.exit id) a w:=rfl
@[go_sem] theorem Ai9 (l:Nat) (J:Act->World->Prop):Exit.jump l J Q .ret a w=Q .ret a w:=rfl
@[go_sem] theorem Aih (l:Nat) (J:Act->World->Prop) (ch:List PanicEntry):Exit.jump l J Q (.panic ch) a w=Q (.panic ch) a w:=rfl
end
theorem Ir (w:World)(o:Obj):Below w.heap.size w (w.alloc o):=(Below.refl _ _).alloc (Nat.le_refl _) _
theorem Jt {m:D.Model}(h:BS m=(0,0)):Ij m<0:=by
 unfold BS at h
 grind
structure BR (e:D.Env):Prop where
 fits:CR e.M e.S=true
 may:F2 e.M=true
 wf:A2 e.M
 pid:-1<=e.Pid/\e.Pid<e.S.Procs.length
section
variable {e : D.Env}
theorem BR.fit (h:BR e):Fit e.S:=XR h.may h.fits
theorem BR.tab (h:BR e):AhA e.M:=RB (CB h.may).1
theorem BR.expr (h:BR e):∀ i:Nat,i<e.M.Exprs.length->CP e.M i=true:=Jb (Jt (CB h.may).1)
theorem BR.chan (h:BR e){c:D.Chan}(hc:c∈e.S.Chans):CQ e.M c=true:=by
 have h:=h.fits
 unfold CR at h
 simp only[Bool.and_eq_true]at h
 exact(Co (d:=default) (f:=fun c=>CQ e.M c)).1 h.1.1.2 c hc
theorem BR.proc (h:BR e){p:D.Process}(hp:p∈e.S.Procs):AT e.M p=true:=by
 have h:=h.fits
 unfold CR at h
 simp only[Bool.and_eq_true]at h
 exact(Co (d:=default) (f:=fun c=>AT e.M c)).1 h.1.2 p hp
theorem BR.globals (h:BR e):e.S.Globals.length=e.M.Globals.length/\Bi e.M.Globals e.S.Globals=true:=by
 have h:=h.fits
 unfold CR GB at h
 simp only[Bool.and_eq_true]at h
 grind [D7]
theorem DI {m:D.Model}{p:D.Process}(h:AT m p=true):(0<=p.Type_/\p.Type_<m.Procs.length)/\(0<=p.Loc/\p.Loc<(AN m p.Type_).Locs.length)/\p.Frame.length=(AN m p.Type_).Frame.length/\Bi (AN m p.Type_).Frame p.Frame=true/\p.Prio=(AN m p.Type_).Prio/\p.Type_≠m.Claim:=by
 unfold AT Cu at h
 simp only[Bool.and_eq_true,decide_eq_true_eq]at h
 grind [B1,D7]
theorem GG {m:D.Model}{c:D.Chan}(h:CQ m c=true):(0<=c.Shape/\c.Shape<m.Shapes.length)/\(c.Queue.length:Int)<=(BW m c.Shape).Room/\∀ x∈c.Queue,Bi (BW m c.Shape).Fields x=true:=by
 unfold CQ at h
 simp only[Bool.and_eq_true,decide_eq_true_eq]at h
 exact⟨B1.1 h.1.1,h.1.2,fun x hx=>(Co (d:=[]) (f:=fun x=>Bi (BW m c.Shape).Fields x)).1 h.2 x hx⟩
end
abbrev vII (p:Int × Int):VV:=.tup [Aa p.1,Aa p.2]
abbrev AcE (p:Int × Int × Int):VV:=.tup [Aa p.1,Aa p.2.1,Aa p.2.2]
theorem B9 {a b:Int}{q:Int × Int}(h:(a,b)=q):leO [] []/\VV.le (.tup [.sc (.int .i64 a),.sc (.int .i64 b)]) (.tup [.sc (.int .i64 q.1),.sc (.int .i64 q.2)]):=by
 subst h;exact⟨trivial,VV.le_refl _⟩
theorem LN {a b c:Int}{q:Int × Int × Int}(h:(a,b,c)=q):leO [] []/\VV.le (.tup [.sc (.int .i64 a),.sc (.int .i64 b),.sc (.int .i64 c)]) (.tup [.sc (.int .i64 q.1),.sc (.int .i64 q.2.1),.sc (.int .i64 q.2.2)]):=by
 subst h;exact⟨trivial,VV.le_refl _⟩
theorem ct {α:Type}{c:Bool}{a b x:α}(h:c=true)(k:x=a):x=bif c then a else b:=by rw[h];exact k
theorem cf {α:Type}{c:Bool}{a b x:α}(h:c=false)(k:x=b):x=bif c then a else b:=by rw[h];exact k
theorem CY (a b:Int):(a != b)=decide (a≠b):=by rw[Bool.eq_iff_iff];simp
theorem Zn {e:D.Env}{ev:Evl}{a:Int}(hE:BR e)(h:¬ (C7 e ev a).2≠0):1<=(C7 e ev a).1/\(C7 e ev a).1<=e.S.Chans.length/\e.S.Chans.length<=32:=by
 have hc:=hE.fit.c
 unfold C7 at h ⊢
 grind
theorem XT {l mt:List Int}{any:Bool}{k:Nat}{x:List Int}{q:List (List Int)}:Ph l mt any k (x::q)=bif EZ x l mt then(k:Int) else bif any then Ph l mt any (k+1) q else -1:=rfl
theorem Mz {f:Nat->Int}:∀ {n:Nat},(∀ i,i<n->f i=0)->XX n f=0
 | 0,_=>rfl
 | n+1,h=>by
  unfold XX
  rw[Mz fun i hi=>h i (by omega),h n (by omega)]<;>rfl
theorem UU {f:Nat->Int}{k:Nat}(h:∀ i,i<k->f i=0)(hf:f k≠0):∀ {n:Nat},k<n->XX n f=f k
 | 0,hk=>by omega
 | n+1,hk=>by
  unfold XX
  by_cases hkn:k=n
  ·subst hkn;rw[Mz h]<;>rfl
  ·rw[UU h hf (n:=n) (by omega),decide_eq_true hf,cond_true]
theorem Im {ev:Evl}{n:Int}{d:D.Dim}{l:List D.Dim}:Dn ev n (d::l)=bif decide ((ev d.I).2≠0) then(0,(ev d.I).2) else bif decide ((ev d.I).1<0)||decide (d.Len<=(ev d.I).1) then(0,47) else Dn ev (n+(ev d.I).1*d.Stride) l:=rfl
structure AfV (d:D.Dim):Prop where
 l1:1<=d.Len
 l2:d.Len<=128
 s1:0<=d.Stride
 s2:d.Stride<=128
theorem AeS {i s n:Int}(h0:0<=i)(h1:i<n)(h2:n<=128)(s0:0<=s)(s1:s<=128):0<=i*s/\i*s<=(n - 1)*s/\(n - 1)*s<=16384:=by
 have a:=Int.mul_nonneg h0 s0
 have b:=Int.mul_le_mul_of_nonneg_right (show i<=n - 1 by omega) s0
 have c:=Int.mul_le_mul (show n - 1<=128 by omega) s1 s0 (by omega)
 omega
structure P2 (m:D.Model) (k:Int) (x:D.Expr):Prop where
 op:1<=x.Op/\x.Op<=39
 a:1<=AP x.Op->0<=x.A/\x.A<k
 b:2<=AP x.Op->0<=x.B/\x.B<k
 c:3<=AP x.Op->0<=x.C/\x.C<k
 num:x.Op=1->Cx ⟨32,true⟩ x.N=true
 var:x.Op=2->CT m k x.V=true
 poll:x.Op=30->BX m k x.Args x.Match=true
theorem R2 {k op p:Int}{i:Nat}(h:DY k op i p=true)(hi:i<AP op):0<=p/\p<k:=by
 unfold DY at h
 simp_all [decide_eq_true,cond_true,B1]
theorem Pj {m:D.Model}{k:Int}(h:CP m k=true):P2 m k (Ao m k):=by
 unfold CP at h
 simp only[Bool.and_eq_true,decide_eq_true_eq]at h
 obtain⟨⟨h1,⟨hA,hB⟩,hC⟩,h3⟩:=h
 refine⟨h1,fun hi=>R2 hA (by omega),fun hi=>R2 hB (by omega),fun hi=>R2 hC (by omega),fun ho=>?_,fun ho=>?_,fun ho=>?_⟩
 ·grind
 ·grind
 grind
theorem Mo {k:Int}{l:List Int}(h:Cc k l=true):∀ a∈l,0<=a/\a<k:=fun a ha =>
 B1.1 ((Co (d:=0) (f:=fun a=>inP k a)).1 h a ha)
structure Vh (m:D.Model) (k:Int) (v:D.Var):Prop where
 scope:0<=v.Scope/\v.Scope<=2
 slot:0<=v.Slot/\v.Slot<=128
 dims:v.Dims.length<=4
 who:v.Scope=2->0<=v.Who/\v.Who<k
 dim:∀ d∈v.Dims,AfV d/\0<=d.I/\d.I<k
theorem HL {m:D.Model}{k:Int}{v:D.Var}(h:CT m k v=true):Vh m k v:=by
 unfold CT at h
 simp only[Bool.and_eq_true,decide_eq_true_eq]at h
 obtain⟨⟨⟨⟨⟨⟨h1,h2⟩,h3⟩,h4⟩,h5⟩,h6⟩,h7⟩:=h
 refine⟨⟨h1,h2⟩,⟨h3,h4⟩,h5,fun hs=>?_,fun d hd=>?_⟩
 ·simp_all [decide_eq_true,cond_true,Bool.and_eq_true,B1]
 ·have:=(Co (d:=default) (f:=fun d=>LX k d)).1 h7 d hd
  unfold LX at this
  simp only[Bool.and_eq_true,decide_eq_true_eq]at this
  obtain⟨⟨⟨⟨a1,a2⟩,a3⟩,a4⟩,a5⟩:=this
  have:=B1.1 a1
  exact⟨⟨a2,a3,a4,a5⟩,this⟩
theorem Zm {ev:Evl}:∀ {l:List D.Dim} {n r k:Int},(∀ d∈l,AfV d)->0<=n->n<r->(Dn ev n l).2=0->(Dn ev n l).1=k->0<=k/\k<Dt r l
 | [],n,r,k,_,h0,h1,_,hk=>by subst hk;exact⟨h0,h1⟩
 | d::l,n,r,k,hd,h0,h1,h2,hk=>by
  have hD:=hd d (List.mem_cons_self ..)
  rw[Im]at h2 hk
  cases c1:decide ((ev d.I).2≠0) with
  | true=>grind
  | false =>
   rw[c1,cond_false]at h2 hk
   cases c2:(decide ((ev d.I).1<0)||decide (d.Len<=(ev d.I).1)) with
   | true=>grind
   | false =>
    rw[c2,cond_false]at h2 hk
    simp only[Bool.or_eq_false_iff,decide_eq_false_iff_not]at c2
    have hm:=AeS (i:=(ev d.I).1) (s:=d.Stride) (n:=d.Len) (by omega) (by omega) hD.l2 hD.s1 hD.s2
    have:=Zm (r:=r+(d.Len - 1)*d.Stride) (by grind) (by omega) (by omega) h2 hk
    have hb:GF d=false:=by
     have:=hD.l1;have:=hD.l2;have:=hD.s1;have:=hD.s2
     unfold GF;simp;omega
    show 0<=k/\k<Dt r (d::l)
    unfold Dt
    grind
structure PK (e:D.Env) (who k:Int):Prop where
 glob:who<0->0<=k/\k<e.S.Globals.length
 own:0<=who->who<e.S.Procs.length/\0<=k/\k<(Ci e who).Frame.length
theorem Aav {m:D.Model}{k:Int}{v:D.Var}(h:Vh m k v):CM v=Dt (v.Slot+1) v.Dims:=by
 have h1:=h.slot;have h2:=h.dims
 unfold CM
 grind
theorem RL {e:D.Env}{ev:Evl}{x:D.Expr}{k:Int}(hE:BR e)(hv:x.Op=2->Vh e.M k x.V)(h:(Bl e ev x).2.2=0):PK e (Bl e ev x).1 (Bl e ev x).2.1:=by
 have hpid:=hE.pid
 unfold Bl at h ⊢
 cases c0:decide (x.Op≠2) with
 | true=>grind
 | false =>
  rw[c0,cond_false]at h
  rw[cond_false]
  have hv:=hv (by simpa using c0)
  have hr:=Aav hv
  cases c1:decide ((BT e ev x.V).2≠0) with
  | true=>grind
  | false =>
   rw[c1,cond_false]at h
   rw[cond_false]
   cases c2:decide ((Dn ev x.V.Slot x.V.Dims).2≠0) with
   | true=>grind
   | false =>
    rw[cond_false]
    have hd:=Zm (ev:=ev) (l:=x.V.Dims) (n:=x.V.Slot) (r:=x.V.Slot+1) (fun d hd=>(hv.dim d hd).1) hv.slot.1 (by omega) (by simpa using c2) rfl
    rw[← hr]at hd
    show PK e (BT e ev x.V).1 (Dn ev x.V.Slot x.V.Dims).1
    generalize (Dn ev x.V.Slot x.V.Dims).1=n at hd
    unfold BT at c1 ⊢
    cases d1:decide (x.V.Scope=0) with
    | true =>
     rw[d1,cond_true]at c1
     rw[cond_true]
     cases d2:decide ((e.S.Globals.length:Int)<CM x.V) with
     | true=>grind
     | false =>
      have:=of_decide_eq_false d2
      exact⟨fun _=>⟨hd.1,by omega⟩,fun h=>by simp at h⟩
    | false =>
     rw[d1,cond_false]at c1
     rw[cond_false]
     cases d2:decide (x.V.Scope=1) with
     | true =>
      rw[d2,cond_true]at c1
      rw[cond_true]
      cases d3:(decide (e.Pid<0)||decide (((Ci e e.Pid).Frame.length:Int)<CM x.V)) with
      | true=>grind
      | false =>
       simp only[Bool.or_eq_false_iff,decide_eq_false_iff_not]at d3
       exact(show PK e e.Pid n from⟨fun h=>absurd h d3.1,fun _=>⟨hpid.2,hd.1,by omega⟩⟩)
     | false =>
      rw[d2,cond_false]at c1
      rw[cond_false]
      cases d3:decide ((ev x.V.Who).2≠0) with
      | true=>grind
      | false =>
       rw[d3,cond_false]at c1
       rw[cond_false]
       cases d4:(decide ((ev x.V.Who).1<0)||(decide ((e.S.Procs.length:Int)<=(ev x.V.Who).1)||decide ((Ci e (ev x.V.Who).1).Type_≠x.V.Type_))) with
       | true=>grind
       | false =>
        rw[d4,cond_false]at c1
        rw[cond_false]
        simp only[Bool.or_eq_false_iff,decide_eq_false_iff_not]at d4
        cases d5:decide (((Ci e (ev x.V.Who).1).Frame.length:Int)<CM x.V) with
        | true=>grind
        | false =>
         have:=of_decide_eq_false d5
         exact(show PK e (ev x.V.Who).1 n from⟨fun h=>absurd h d4.1,fun _=>⟨by omega,hd.1,by omega⟩⟩)
theorem NU {m:D.Model}{k:Int}{a t:List Int}(h:BX m k a t=true):a.length<=8/\t.length=a.length/\∀ x∈a,0<=x/\x<k:=by
 unfold BX at h
 simp only[Bool.and_eq_true,decide_eq_true_eq]at h
 exact⟨h.1.1.1.2,h.1.1.2,Mo h.1.2⟩
theorem Afm {m:D.Model}{x:Int}(hx:0<=x/\x<m.Exprs.length):Ao m x∈m.Exprs:=An (d:=default) (by omega)
theorem AfO {e:D.Env}{x:Int}(hE:BR e)(hx:0<=x/\x<e.M.Exprs.length):Len (Ao e.M x).Args.length:=by
 have:=(hE.wf.Exprs.2 _ (Afm hx)).Args.1
 unfold Len;omega
theorem AeP {o:Int}(h:1<=o/\o<=39):o=1∨o=2∨o=3∨o=4∨o=5∨o=6∨o=7∨o=8∨o=9∨o=10∨o=11∨o=12∨o=13∨o=14∨o=15∨o=16∨o=17∨o=18∨o=19∨o=20∨o=21∨o=22∨o=23∨o=24∨o=25∨o=26∨o=27∨o=28∨o=29∨o=30∨o=31∨o=32∨o=33∨o=34∨o=35∨o=36∨o=37∨o=38∨o=39:=by omega
theorem XY {e:D.Env}{x:Int}(hw:A2 e.M)(h:B8 e x=0):BR e/\0<=x/\x<e.M.Exprs.length:=by
 unfold B8 at h
 cases c1:decide (B3 e.M e.S≠0) with
 | true=>rw[c1,cond_true]at h;exact absurd h (of_decide_eq_true c1)
 | false =>
  rw[c1,cond_false]at h
  obtain⟨h1,h2⟩:=X5 (show B3 e.M e.S=0 by simpa using c1)
  cases c2:(decide (e.Pid < -1)||(decide ((e.S.Procs.length:Int)<=e.Pid)||(decide (x<0)||decide ((e.M.Exprs.length:Int)<=x)))) with
  | true=>rw[c2,cond_true]at h;simp at h
  | false =>
   simp only[Bool.or_eq_false_iff,decide_eq_false_iff_not]at c2
   exact⟨⟨h2,h1,hw,by omega,by omega⟩,by omega,by omega⟩
def B33 (n:Int):Prop:=-2147483648<=n/\n<=4294967295
def Q33 (t:Bool)(p:Int × Int):Prop:=p.2=0->B33 p.1/\(t=true->p.1=0∨p.1=1)
theorem EW {t b:Bool}:Q33 t (Dh b):=by cases b<;>simp[Q33,B33,Dh]
theorem YY {t:Bool}{a c:Int}(h:c≠0):Q33 t (a,c):=fun h'=>absurd h' h
theorem I0 {t:Bool}{a c:Int}(h:decide (c≠0)=true):Q33 t (a,c):=YY (of_decide_eq_true h)
theorem EX {t c:Bool}{p q:Int × Int}(h1:c=true->Q33 t p)(h2:c=false->Q33 t q):Q33 t (bif c then p else q):=by
 cases c
 ·exact h2 rfl
 ·exact h1 rfl
theorem FG {t:Bool}{c:Prop}[Decidable c]{p q:Int × Int}(h1:c->Q33 t p)(h2:¬ c->Q33 t q):Q33 t (if c then p else q):=by
 split
 ·rename_i h;exact h1 h
 ·rename_i h;exact h2 h
theorem Nh {t:Bool}{a c:Int}(h:B33 a)(ht:t=false):Q33 t (a,c):=fun _=>⟨h,fun h=>by rw[ht]at h;cases h⟩
theorem RW {t:Bool}{p:Int × Int}(h:Q33 t p):Q33 false p:=fun h0=>⟨(h h0).1,fun h=>by cases h⟩
theorem UK {t:D.Type}{v:Int}(h:Cx t v=true):B33 v:=by
 unfold Cx Eb at h
 simp only[Bool.and_eq_true,decide_eq_true_eq]at h
 obtain⟨⟨h1,h2,h3⟩,h4⟩:=h
 have hp:=Ad0 t.Bits h1 h2
 unfold B33
 cases hs:t.Signed with
 | false=>rw[hs]at h4;simp at h4;omega
 | true =>
  rw[hs]at h3 h4
  simp at h3 h4
  rcases h3 with h3 | h3
  ·rw[h3]at h4;simp at h4;omega
  ·rw[h3]at h4;simp at h4;omega
theorem SV {t:List D.Type}{l:List Int}{k:Nat}(h:Bi t l=true)(hk:k<l.length):B33 (l.getD k 0):=by
 unfold Bi at h
 simp only[Bool.and_eq_true,decide_eq_true_eq]at h
 exact UK (AK.1 h.2 k hk)
theorem R7 {b:Bool}:Hs b=0∨Hs b=1:=by cases b<;>simp[Hs]
def Ahl (n:Int):Prop:=-2147483648<=n/\n<=2147483647
theorem C3 {c:Prop}[Decidable c]{a b:Int}(h1:Ahl a)(h2:Ahl b):Ahl (if c then a else b):=by
 split
 ·exact h1
 ·exact h2
theorem AhH (op a b:Int):-2147483648<=K9 op a b/\K9 op a b<=2147483647:=by
 have ho:∀ b:Bool,-2147483648<=Hs b/\Hs b<=2147483647:=fun b=>by rcases R7 (b:=b) with h | h<;>rw[h]<;>decide
 have hz:(-2147483648:Int)<=0/\(0:Int)<=2147483647:=by decide
 show Ahl (K9 op a b)
 unfold K9
 exact C3 (Cy _) (C3 (C3 hz (Cy _)) (C3 (C3 hz (Af6 _ _ (Cy _).1 (Cy _).2)) (C3 (Cy _) (C3 (Cy _) (C3 (Qr _ _ (Cy _)) (C3 (Qr _ _ (Cy _)) (C3 (ho _) (C3 (ho _) (C3 (ho _) (C3 (ho _) (C3 (ho _) (C3 (ho _) (C3 (Je .and (.inl rfl) _ _) (C3 (Je .xor (.inr (.inr rfl)) _ _) (C3 (Je .or (.inr (.inl rfl)) _ _) hz)))))))))))))))
theorem ZI {op a b:Int}(h:13<=op/\op<=18):K9 op a b=0∨K9 op a b=1:=by
 obtain⟨h1,h2⟩:=h
 have:op=13∨op=14∨op=15∨op=16∨op=17∨op=18:=by omega
 rcases this with rfl | rfl | rfl | rfl | rfl | rfl<;>exact R7
theorem AgP (op a:Int):-2147483648<=R8 op a/\R8 op a<=2147483647:=by
 have hw:=Cy a
 unfold R8
 split
 ·exact Cy _
 split
 ·rcases R7 (b:=wrap32 a==0) with h | h<;>rw[h]<;>decide
 split
 ·omega
 ·decide
def Jr (op:Int):Bool:=decide (13<=op/\op<=18)||(decide (op=4)||(decide (op=22)||(decide (op=23)||(decide (26<=op/\op<=30)||(decide (op=34)||(decide (op=35)||(decide (op=36)||decide (op=38))))))))
section
variable {e : D.Env} {ev:Evl}
theorem Ahe {op a b:Int}:B33 (K9 op a b):=by have:=AhH op a b;unfold B33;omega
theorem Ahf {op a:Int}:B33 (R8 op a):=by have:=AgP op a;unfold B33;omega
theorem Ah8 {x:D.Expr}{t:Bool}(ht:t=true->x.Op=4∨(13<=x.Op/\x.Op<=18)):Q33 t (Qh ev x):=by
 unfold Qh
 refine EX I0 fun _=>EX (fun h _=>⟨Ahf,fun h'=>?_⟩) fun h=>EX I0 fun _=>fun _=>⟨Ahe,fun h'=>?_⟩
 ·rcases ht h' with h4 | h4
  ·show R8 x.Op _=0∨R8 x.Op _=1
   rw[h4];exact R7
  ·simp at h;omega
 ·rcases ht h' with h4 | h4
  ·rw[h4]at h;simp at h
  ·exact ZI h4
theorem Agr {x:D.Expr}{t:Bool}(ht:t=true->x.Op≠24)(hB:Q33 false (ev x.B))(hC:x.Op=24->Q33 false (ev x.C)):Q33 t (I5 ev x):=by
 unfold I5
 refine EX I0 fun _=>EX (fun h=>?_) fun h=>EX (fun _=>EW) fun _=>EX I0 fun _=>EW
 have h24:=of_decide_eq_true h
 cases t with
 | true=>exact absurd h24 (ht rfl)
 | false=>exact EX (fun _=>hB) fun _=>hC h24
theorem AfD (hE:BR e)(n:Int):(BP e n).Queue.length<=16:=by
 unfold BP
 by_cases h:(n - 1).toNat<e.S.Chans.length
 ·exact(hE.fit.q _ (An h)).1
 ·rw[List.getD,List.getElem?_eq_none (show e.S.Chans.length<=(n - 1).toNat by omega)];exact Nat.zero_le _
theorem Aib {x:D.Expr}{t:Bool}(hE:BR e)(ht:t=true->x.Op≠25):Q33 t (Ka e ev x):=by
 have hl:=AfD hE (C7 e ev x.A).1
 unfold Ka
 refine EX I0 fun _=>?_
 unfold Ais
 refine FG (fun h=>?_) fun _=>FG (fun _=>EW) fun _=>FG (fun _=>EW) fun _=>FG (fun _=>EW) fun _=>EW
 refine Nh (by unfold B33;omega) ?_
 cases t with
 | true=>exact absurd h (ht rfl)
 | false=>rfl
theorem Aia {x:D.Expr}{t:Bool}:Q33 t (J6 e ev x):=by
 unfold J6
 exact EX I0 fun _=>EX (fun _=>YY (by decide)) fun _=>EX I0 fun _=>EW
theorem Aic {x:D.Expr}{t:Bool}:Q33 t (PI e ev x):=by
 unfold PI
 exact EX I0 fun _=>EW
theorem AdS {x:D.Expr}{t:Bool}(hE:BR e)(ht:t=true->x.Op≠37):Q33 t (H3 e ev x):=by
 unfold H3
 refine EX I0 fun _=>EX (fun _=>YY (by decide)) fun h2=>EX (fun h=>?_) fun _=>EW
 simp only[Bool.or_eq_false_iff,decide_eq_false_iff_not]at h2
 have hp:=DI (hE.proc (p:=Ci e (ev x.A).1) (An (d:=default) (show(ev x.A).1.toNat<e.S.Procs.length by omega)))
 have hl:=(XD hE.may).locs _ hp.1.1 hp.1.2
 have hloc:=hp.2.1
 refine Nh (by unfold B33;omega) ?_
 cases t with
 | true=>exact absurd (of_decide_eq_true h) (ht rfl)
 | false=>rfl
theorem Ah9 {x:D.Expr}{k:Int}(hE:BR e)(hv:x.Op=2->Vh e.M k x.V):Q33 false (M8 e ev x):=by
 unfold M8
 refine EX I0 fun h=>?_
 have hs:=RL hE hv (by simpa using h)
 refine EX (fun h1=>?_) fun h1=>?_
 ·have:=hs.glob (of_decide_eq_true h1)
  exact Nh (SV hE.globals.2 (by omega)) rfl
 ·have h0:0<=(Bl e ev x).1:=by have:=of_decide_eq_false h1;omega
  have:=hs.own h0
  have hp:=DI (hE.proc (p:=Ci e (Bl e ev x).1) (An (d:=default) (show(Bl e ev x).1.toNat<e.S.Procs.length by omega)))
  exact Nh (SV hp.2.2.2.1 (by omega)) rfl
theorem UR {x:D.Expr}{k:Int}(hE:BR e)(hx:P2 e.M k x)(hB:2<=AP x.Op->Q33 false (ev x.B))(hC:3<=AP x.Op->Q33 false (ev x.C))(hl:0<=e.S.Last/\e.S.Last<16):Q33 (Jr x.Op) (CD e ev x):=by
 have hpid:=hE.pid
 have hpl:=hE.fit.p
 have tt:∀ {o:Int},Jr o=true->(13<=o/\o<=18)∨o=4∨o=22∨o=23∨(26<=o/\o<=30)∨o=34∨o=35∨o=36∨o=38:=fun h=>by
  simpa only[Jr,Bool.or_eq_true,decide_eq_true_eq] using h
 unfold CD
 refine FG (fun h=>Nh (UK (hx.num h)) (by rw[h]<;>rfl)) fun n1=>FG (fun h=>?_) fun n2=>FG (fun h=>?_) fun n3=>FG (fun h=>?_) fun n4=>FG (fun _=>Aia) fun n5 =>
  FG (fun h=>Nh (by unfold B33;omega) (by rw[h]<;>rfl)) fun n6=>FG (fun h=>Nh (by unfold B33;omega) (by rw[h];rfl)) fun n7=>FG (fun h=>Nh (by unfold B33;omega) (by rw[h];rfl)) fun n8=>FG (fun _=>EW) fun n9=>FG (fun _=>EW) fun n10=>FG (fun _=>Aic) fun n11=>FG (fun h=>?_) fun n12=>FG (fun _=>YY (by decide)) fun n13=>?_
 ·rw[show Jr x.Op=false by rw[h]<;>rfl]
  exact Ah9 hE fun ho=>HL (hx.var ho)
 ·refine Agr (fun ht h'=>by rw[h']at ht;cases ht) (hB ?_) fun h24=>hC (by rw[h24];decide)
  rcases h with h | h | h<;>rw[h]<;>decide
 ·exact Aib hE fun ht h'=>by rw[h']at ht;cases ht
 ·exact AdS hE fun ht h'=>by rw[h']at ht;cases ht
 ·refine Ah8 fun ht=>?_
  have:=tt ht
  omega
end
theorem BR.last {e:D.Env}(h:BR e):0<=e.S.Last/\e.S.Last<16:=by
 have h:=h.fits
 unfold CR GB at h
 simp only[Bool.and_eq_true,decide_eq_true_eq]at h
 exact⟨h.1.1.1.1.1.1.2,h.1.1.1.1.1.2⟩
theorem JN {e:D.Env}(hE:BR e):∀ (n:Nat) (x:Int),0<=x->x<e.M.Exprs.length->x<n->Q33 (Jr (Ao e.M x).Op) (GD e n x)
 | 0,x,h0,_,h2=>by omega
 | n+1,x,h0,h1,h2=>by
  have hxn:((x.toNat:Nat):Int)=x:=by omega
  have hok:P2 e.M x (Ao e.M x):=Pj (by have:=hE.expr x.toNat (by omega);rwa [hxn]at this)
  exact UR hE hok (fun h=>RW (JN hE n _ (hok.b h).1 (by have:=hok.b h;omega) (by have:=hok.b h;omega))) (fun h=>RW (JN hE n _ (hok.c h).1 (by have:=hok.c h;omega) (by have:=hok.c h;omega))) hE.last
theorem AbZ {e:D.Env}(hw:A2 e.M)(x:Int):Q33 (Jr (Ao e.M x).Op) (Bh e x):=by
 unfold Bh
 refine EX I0 fun h=>?_
 obtain⟨hE,h0,h1⟩:=XY (x:=x) hw (by simpa using h)
 have hxn:((x.toNat:Nat):Int)=x:=by omega
 have hok:P2 e.M x (Ao e.M x):=Pj (by have:=hE.expr x.toNat (by omega);rwa [hxn]at this)
 exact UR hE hok (fun h=>RW (JN hE _ _ (hok.b h).1 (by have:=hok.b h;omega) (by have:=hok.b h;omega))) (fun h=>RW (JN hE _ _ (hok.c h).1 (by have:=hok.c h;omega) (by have:=hok.c h;omega))) hE.last
def KB (t:D.Type)(v:Int):Int:=Ih t.Bits t.Signed v
def AhV (m:D.Model)(s:D.State)(k v:Int):D.State:={ s with Globals:=s.Globals.set k.toNat (KB (m.Globals.getD k.toNat default) v) }
def VJ (m:D.Model)(p:D.Process)(k v:Int):D.Process:={ p with Frame:=p.Frame.set k.toNat (KB ((AN m p.Type_).Frame.getD k.toNat default) v) }
def Ts (m:D.Model)(s:D.State)(who k v:Int):D.State:={ s with Procs:=s.Procs.set who.toNat (VJ m (s.Procs.getD who.toNat default) k v) }
def IA (m:D.Model)(s:D.State)(who k v:Int):D.State:=bif decide (who<0) then AhV m s k v else Ts m s who k v
def BM (e:D.Env)(x v:Int):D.State × Int :=
 bif decide (B8 e x≠0) then(default,B8 e x)
 else bif decide ((Bl e (D0 e) (Ao e.M x)).2.2≠0) then(default,(Bl e (D0 e) (Ao e.M x)).2.2)
 else(IA e.M e.S (Bl e (D0 e) (Ao e.M x)).1 (Bl e (D0 e) (Ao e.M x)).2.1 v,0)
theorem G8 {α:Type}{l:List α}{i:Nat}{a x:α}(h:x∈l.set i a):x∈l∨x=a:=List.mem_or_eq_of_mem_set h
section
variable {e : D.Env} {x:Int}
theorem Afn (hE:BR e)(h0:0<=x)(h1:x<e.M.Exprs.length):P2 e.M x (Ao e.M x):=by
 have hxn:((x.toNat:Nat):Int)=x:=by omega
 exact Pj (by have:=hE.expr x.toNat (by omega);rwa [hxn]at this)
theorem Qo (hE:BR e)(h0:0<=x)(h1:x<e.M.Exprs.length){ev:Evl}(h:(Bl e ev (Ao e.M x)).2.2=0):PK e (Bl e ev (Ao e.M x)).1 (Bl e ev (Ao e.M x)).2.1 :=
 RL hE (fun ho=>HL ((Afn hE h0 h1).var ho)) h
end
structure Pn where
 pid:Int
 esc:Int
 way:Int
deriving DecidableEq
instance : Inhabited Pn:=⟨⟨0,0,0⟩⟩
structure Ab where
 is:Bool
 err:Int
 wth:List Pn
instance : Inhabited Ab:=⟨⟨false,0,[]⟩⟩
structure Wy where
 Esc:Int
 Way:Int
 With:Int
 WithEsc:Int
 WithWay:Int
 Err:Int
deriving DecidableEq
instance : Inhabited Wy:=⟨⟨0,0,0,0,0,0⟩⟩
section
variable (e : D.Env)
def Rb : Int:=bif decide (B3 e.M e.S≠0) then B3 e.M e.S else bif decide (e.Pid<0)||decide ((e.S.Procs.length:Int)<=e.Pid) then 42 else 0
def BQ : D.Proc:=AN e.M (Ci e e.Pid).Type_
def Br : D.Loc:=(BQ e).Locs.getD (Ci e e.Pid).Loc.toNat default
def BJ (x:Int):Bool:=decide (0<=x)&&decide ((Ao e.M x).Op=39)
def XW : Nat->List (List D.Trans)->List (Int × List D.Trans)
 | _,[]=>[]
 | k,w::r=>((k:Int),w)::XW (k+1) r
def Gx (l:D.Loc):List (Int × List D.Trans):=XW 0 l.Esc++[(-1,l.Out)]
def Iv (ev:Evl):List Int->List Int->List Int × Int
 | out,[]=>(out,0)
 | out,x::l=>bif decide ((ev x).2≠0) then([],(ev x).2) else Iv ev (out++[(ev x).1]) l
def BI (l:List Int):List Int × Int:=Iv (Bh e) [] l
def Hy (f:List D.Type)(l:List Int):List Int:=(List.range l.length).map fun i=>KB (f.getD i default) (l.getD i 0)
def Bo (c:Int):List D.Type:=(BW e.M (BP e c).Shape).Fields
def Ax (s:D.Stmt):Int × List Int × Int :=
 bif decide ((AC e s.A).2≠0) then(0,[],(AC e s.A).2)
 else bif decide ((Bo e (AC e s.A).1).length≠s.Args.length) then(0,[],49)
 else bif decide ((BI e s.Args).2≠0) then(0,[],(BI e s.Args).2)
 else((AC e s.A).1,Hy (Bo e (AC e s.A).1) (BI e s.Args).1,0)
def Cz (s:D.Stmt):List Int × Int :=
 bif decide (Eu (Bh e) s.Args s.Match s.Args.length≠0) then([],Eu (Bh e) s.Args s.Match s.Args.length) else(C8 (Bh e) s.Args s.Match,0)
def Bg (s:D.Stmt):Int × Int × Int :=
 bif decide ((AC e s.A).2≠0) then(0,-1,(AC e s.A).2)
 else bif decide ((Bo e (AC e s.A).1).length≠s.Args.length) then(0,-1,49)
 else bif decide ((Cz e s).2≠0) then(0,-1,(Cz e s).2)
 else((AC e s.A).1,Ja (BP e (AC e s.A).1) (Cz e s).1 s.Match (decide (s.N.tmod 2=1)),0)
def DE (s:D.Stmt)(c:Int)(m:List Int):Bool :=
 bif decide (s.Kind≠6)||(decide (1<s.N)||decide (s.Args.length≠m.length)) then false
 else bif decide ((AC e s.A).2≠0)||decide ((AC e s.A).1≠c) then false
 else bif decide ((Cz e s).2≠0) then false else decide (Ja ⟨0,[m]⟩ (Cz e s).1 s.Match false=0)
def IX : Ab:=⟨decide (e.S.Procs.length<16),0,[]⟩
def Fg (mt:Int->List Int->List Pn)(s:D.Stmt)(self:Bool):Ab :=
 bif decide ((AC e s.A).2≠0) then⟨true,(AC e s.A).2,[]⟩
 else bif decide ((Bo e (AC e s.A).1).length≠s.Args.length) then⟨true,49,[]⟩
 else bif decide (0<(BW e.M (BP e (AC e s.A).1).Shape).Room) then⟨decide (((BP e (AC e s.A).1).Queue.length:Int)<(BW e.M (BP e (AC e s.A).1).Shape).Room),0,[]⟩
 else bif self then⟨false,0,[]⟩
 else bif decide ((Ax e s).2.2≠0) then⟨true,(Ax e s).2.2,[]⟩
 else⟨decide (0<(mt (AC e s.A).1 (Ax e s).2.1).length),0,mt (AC e s.A).1 (Ax e s).2.1⟩
def BA (mt:Int->List Int->List Pn)(s:D.Stmt)(self:Bool):Ab :=
 if s.Kind=1 then(bif BJ e s.A then IX e else⟨decide ((Bh e s.A).1≠0)||decide ((Bh e s.A).2≠0),(Bh e s.A).2,[]⟩)
 else if s.Kind=2 then(bif BJ e s.B then IX e else⟨true,0,[]⟩)
 else if s.Kind=9 then⟨decide (e.S.Chans.length<32),0,[]⟩
 else if s.Kind=5 then Fg e mt s self
 else if s.Kind=6 then⟨decide (0<=(Bg e s).2.1)||decide ((Bg e s).2.2≠0),(Bg e s).2.2,[]⟩
 else if s.Kind=7 then⟨false,0,[]⟩ else⟨true,0,[]⟩
def Dz (mt:Int->List Int->List Pn)(ways:List D.Trans)(self:Bool):Nat->Bool
 | 0=>false
 | n+1=>Dz mt ways self n||(BA e mt (ways.getD n default).S self).is
def C1 (mt:Int->List Int->List Pn)(ways:List D.Trans)(self:Bool)(i:Nat):Ab :=
 let x:=BA e mt (ways.getD i default).S self
 bif decide ((ways.getD i default).S.Kind=7)&&!(Dz e mt ways self ways.length) then{ x with is:=true } else x
def Dj (mt:Int->List Int->List Pn)(ways:List D.Trans)(self:Bool):List Ab:=(List.range ways.length).map (C1 e mt ways self)
def Hu : Int->List Int->List Pn:=fun _ _=>[]
def isSome (l:List Ab):Bool:=l.any Ab.is
def DW (c:Int)(m:List Int)(i:Int):Nat->List D.Trans->List Pn
 | _,[]=>[]
 | k,t::r=>(bif DE e t.S c m then[⟨e.Pid,i,k⟩] else[])++DW c m i (k+1) r
def Gr (c:Int)(m:List Int):List (Int × List D.Trans)->List Pn
 | []=>[]
 | (i,ws)::r=>bif decide (0<(DW e c m i 0 ws).length)||isSome (Dj e Hu ws true) then DW e c m i 0 ws else Gr c m r
def A6 : Bool × Int:=bif decide ((BQ e).Provided<0) then(true,0) else(decide ((Bh e (BQ e).Provided).1≠0),(Bh e (BQ e).Provided).2)
def DO (c:Int)(m:List Int):List Pn:=bif !(A6 e).1||decide ((A6 e).2≠0) then[] else Gr e c m (Gx (Br e))
def Bq (q:Int):D.Env:={ e with Pid:=q }
def Da (c:Int)(m:List Int):Nat->List Pn
 | 0=>[]
 | n+1=>Da c m n++bif decide ((n:Int)≠e.Pid) then DO (Bq e n) c m else[]
def Bm (c:Int)(m:List Int):List Pn:=Da e c m e.S.Procs.length
def Nl (err:Int):Wy:=⟨-1,-1,-1,-1,-1,err⟩
def JY (i:Int)(k:Nat)(err:Int)(p:Pn):Wy:=⟨i,k,p.pid,p.esc,p.way,err⟩
def Fa (i:Int)(k:Nat)(x:Ab):List Wy:=(bif x.is&&decide (x.wth.length=0) then[⟨i,k,-1,-1,-1,x.err⟩] else[])++x.wth.map (JY i k x.err)
def DC (i:Int):Nat->List Ab->List Wy
 | _,[]=>[]
 | k,x::r=>Fa i k x++DC i (k+1) r
def EI : List (Int × List D.Trans)->List Wy
 | []=>[]
 | (i,ws)::r=>bif decide (0<(DC i 0 (Dj e (Bm e) ws false)).length) then DC i 0 (Dj e (Bm e) ws false) else EI r
def AF : List Wy :=
 bif decide ((Ci e e.Pid).Loc=(BQ e).Final) then(bif decide (e.Pid=(e.S.Procs.length:Int) - 1) then[Nl 0] else[])
 else bif decide ((A6 e).2≠0) then[Nl (A6 e).2]
 else bif !(A6 e).1 then[] else EI e (Gx (Br e))
def FT : List Wy × Int:=bif decide (Rb e≠0) then([],Rb e) else(AF e,0)
end
def MZ (y x:VV):Prop:=∀ (w:World) (E:A0) (v:Value),V w E none y v->∀ B,V w ⟨fun _=>False,B,0,[]⟩ none x v
def La : List VV->List VV->Prop
 | [],[]=>True
 | y::ys,x::xs=>MZ y x/\La ys xs
 | _,_=>False
theorem Js : ∀ {ys xs:List VV},La ys xs->ys.length=xs.length
 | [],[],_=>rfl
 | y::ys,x::xs,h=>by simp[Js h.2]
 | [],_::_,h=>h.elim
 | _::_,[],h=>h.elim
theorem IQ : ∀ {ys xs:List VV},La ys xs->∀ (j:Nat) x,xs[j]?=some x->∃ y,ys[j]?=some y/\MZ y x
 | y::ys,x::xs,h,0,z,hz=>by simp only[List.getElem?_cons_zero,Option.some.injEq]at hz;subst hz;exact⟨y,rfl,h.1⟩
 | y::ys,x::xs,h,j+1,z,hz=>by simpa using IQ h.2 j z (by simpa using hz)
 | [],_::_,h,_,_,_=>h.elim
 | _,[],_,_,_,hz=>by simp at hz
theorem Bt {u:Value}:MZ (.sc u) (.sc u):=fun w E v h B=>by
 obtain rfl:=h.sc_inv
 exact .sc
theorem FX {b:Bool}{n s:Nat}{f f':Nat->List VV}(hr:∀ i,i<n->La (f i) (f' i)):MZ (.sl b n s f) (.sl true n s f'):=fun w E v h B=>by
 obtain⟨a,cap,rfl,h1,h2,h3⟩:=V.sl_inv h
 refine V.sl_mk h1 h2 fun hp=>?_
 obtain⟨g,off,rfl,hb,_,hl,u,hc,hv⟩:=h3 hp
 refine⟨g,off,rfl,hb,fun h=>h,fun i hi=>by rw[← Js (hr i hi)];exact hl i hi,u,fun i j x hi hx=>?_,fun i j x hi hx=>?_⟩
 ·obtain⟨y,hy,_⟩:=IQ (hr i hi) j x hx
  exact hc i j y hi hy
 ·obtain⟨y,hy,hle⟩:=IQ (hr i hi) j x hx
  exact hle _ _ _ (hv i j y hi hy) _
theorem IP {ys xs:List VV}(hr:La ys xs):MZ (.agg ys) (.agg xs):=fun w E v h B=>by
 obtain⟨vs,rfl,h1,h2⟩:=h.agg_inv
 refine .agg (h1.trans (Js hr)) fun j x hx=>?_
 obtain⟨y,hy,hle⟩:=IQ hr j x hx
 exact hle _ _ _ (h2 j y hy) _
def AfT (r:VV):Prop:=∀ (w:World) (E E':A0) (m m':Option Phi) (v:Value),V w E m r v->V w E' m' r v
theorem OZ {u:Value}:AfT (.sc u):=fun w E E' m m' v h=>by
 obtain rfl:=h.sc_inv
 exact .sc
theorem Al.thaw {P:Program}{f:FuncId}{xs ys:List VV}{r:VV}(h:Al P f [] xs [] r)(hr:AfT r)(hle:La ys xs):Al P f [] ys [] r:=by
 refine Al.hand h.callable fun w E vs hA hL hB hb hs=>?_
 refine(h.start hL hB ⟨hs.1.trans (Js hle),fun j x hx=>?_⟩).mono ?_
 ·obtain⟨y,hy,hl⟩:=IQ hle j x hx
  exact hl _ _ _ (hs.2 j y hy) _
 ·rintro e w' ⟨v,rfl,hB',hv⟩
  exact⟨v,rfl,hr _ _ _ _ _ _ hv,hB'⟩
def Ae2 : Value->Value->Bool
 | .int k a,.int l b=>decide (k=l)&&decide (a=b)
 | .bool a,.bool b=>a==b
 | .string a,.string b=>decide (a=b)
 | _,_=>false
theorem Ae1 {u v:Value}(h:Ae2 u v=true):u=v:=by
 unfold Ae2 at h
 split at h
 ·simp only[Bool.and_eq_true,decide_eq_true_eq]at h;rw[h.1,h.2]
 ·simp only[beq_iff_eq]at h;rw[h]
 ·simp only[decide_eq_true_eq]at h;rw[h]
 ·cases h
def Il (x:Pn):List VV:=[Aa x.pid,Aa x.esc,Aa x.way]
def ET (l:List Pn):Nat->List VV:=fun i=>Il (l.getD i default)
def Cl (fz:Bool)(l:List Pn):VV:=.sl fz l.length 3 fun i=>Il (l.getD i default)
def BO (x:Ab):List VV:=[Ac x.is,Aa x.err,Cl true x.wth]
def Kk (l:List Ab):Nat->List VV:=fun i=>BO (l.getD i default)
def DK (fz:Bool)(l:List Ab):VV:=.sl fz l.length 3 fun i=>BO (l.getD i default)
def Bu (x:Wy):List VV:=[Aa x.Esc,Aa x.Way,Aa x.With,Aa x.WithEsc,Aa x.WithWay,Aa x.Err]
def Gp (l:List Wy):Nat->List VV:=fun i=>Bu (l.getD i default)
def BY (fz:Bool)(l:List Wy):VV:=.sl fz l.length 6 fun i=>Bu (l.getD i default)
def AiL : Shp:={ α:=List Pn,enc:=fun y=>([],Cl true y) }
def AiR : Shp:={ α:=Ab,enc:=fun y=>([],.agg (BO y)) }
def AhU : Shp:={ α:=List Ab,enc:=fun y=>([],DK true y) }
def AiI : Shp:={ α:=Wy,enc:=fun y=>([],.agg (Bu y)) }
def AhN : Shp:={ α:=List Wy,enc:=fun y=>([],BY true y) }
def AiQ : Shp:={ α:=Bool × Int,enc:=fun y=>([],.tup [Ac y.1,Aa y.2]) }
def Aht : Shp:={ α:=List Int × Int,enc:=fun y=>([],.tup [Ad true y.1,Aa y.2]) }
def Ajl (f:FuncId):Shp :=
                  AiS f
end Go.Proofs.YtlhajmkjfcbhnaaGreat
namespace Go.Proofs.YtlhajmkjfcbhnaaGreat
end Go.Proofs.YtlhajmkjfcbhnaaGreat
namespace Go.Proofs.YtlhajmkjfcbhnaaGreat
open Go.RowKit
structure B5 (e:D.Env):Prop where
 ok:BR e
 p0:0<=e.Pid
section
variable {e : D.Env}
theorem B5.lt (h:B5 e):e.Pid.toNat<e.S.Procs.length:=by have:=h.ok.pid;have:=h.p0;omega
theorem B5.mem (h:B5 e):Ci e e.Pid∈e.S.Procs:=An h.lt
theorem B5.facts (h:B5 e):(0<=(Ci e e.Pid).Type_/\(Ci e e.Pid).Type_<e.M.Procs.length)/\(0<=(Ci e e.Pid).Loc/\(Ci e e.Pid).Loc<(BQ e).Locs.length) :=
 let hp:=DI (h.ok.proc h.mem);⟨hp.1,hp.2.1⟩
theorem B5.wproc (h:B5 e):Fw (BQ e):=h.ok.wf.Procs.2 _ (An (by have:=h.facts.1;omega))
theorem B5.wloc (h:B5 e):Kd (Br e):=h.wproc.Locs.2 _ (An (by have:=h.facts.2;omega))
theorem Rq {ev:Evl}{out:List Int}{x:Int}{l:List Int}:Iv ev out (x::l)=bif decide ((ev x).2≠0) then([],(ev x).2) else Iv ev (out++[(ev x).1]) l:=rfl
end
section
variable {e : D.Env}
structure Ny (e:D.Env) (n:Int):Prop where
 ok:BR e
 lo:1<=n
 hi:n<=e.S.Chans.length
 le:e.S.Chans.length<=32
 sh:0<=(BP e n).Shape/\(BP e n).Shape<e.M.Shapes.length
 q:(BP e n).Queue.length<=16
theorem FL (hw:A2 e.M){x:Int}(h:(AC e x).2=0):Ny e (AC e x).1:=by
 unfold AC at h ⊢
 cases c:decide (B8 e x≠0) with
 | true=>grind
 | false =>
  rw[c,cond_false]at h
  rw[cond_false]
  obtain⟨hE,_,_⟩:=XY (x:=x) hw (by simpa using c)
  have hn:=Zn hE (a:=x) (by simpa using h)
  generalize (C7 e (GD e e.M.Exprs.length) x).1=n at hn ⊢
  have hm:BP e n∈e.S.Chans:=An (by omega)
  exact⟨hE,hn.1,hn.2.1,hn.2.2,(GG (hE.chan hm)).1,(hE.fit.q _ hm).1⟩
theorem AeR {a b:Nat}:((a:Int) != (b:Int))=decide (a≠b):=by grind
theorem L1 {l:List Int}(h:(BI e l).2=0):(BI e l).1.length=l.length:=by
 have key:∀ (l o:List Int),(Iv (Bh e) o l).2=0->(Iv (Bh e) o l).1.length=o.length+l.length:=by
  intro l
  induction l with
  | nil=>intro o _;rfl
  | cons x l ih =>
   intro o h
   rw[Rq]at h ⊢
   grind
 have:=key l [] h
 simpa[BI] using this
end
theorem MX {n:Nat}:∀ {ws:List (List D.Trans)} {many k many':Nat},Gg n many k ws=some many'->∀ w∈ws,w.length<=1024/\∀ t∈w,inP n t.To=true
 | [],_,_,_,_,w,hw=>by cases hw
 | v::r,many,k,many',h,w,hw=>by
  unfold Gg at h
  cases c1:(decide (0<k)&&decide (v.length=0)) with
  | true=>grind
  | false =>
  cases c2:decide (1024<many+v.length) with
  | true=>grind
  | false =>
  cases c3:Cd v.length (fun i=>inP n (v.getD i default).To) with
  | false=>grind
  | true =>
   rw[c1,c2,c3,cond_false,cond_false,cond_true]at h
   rcases List.mem_cons.1 hw with rfl | hw
   ·have:=of_decide_eq_false c2
    exact⟨by omega,(Co (d:=default) (f:=fun t:D.Trans=>inP n t.To)).1 c3⟩
   ·exact MX h w hw
theorem O9 {n:Nat}{final:Int}:∀ {ls:List D.Loc} {many i:Nat},FQ n final many i ls=true->∀ l∈ls,∀ w∈Bw l,w.length<=1024/\∀ t∈w,inP n t.To=true
 | [],_,_,_,l,hl,_,_=>by cases hl
 | v::r,many,i,h,l,hl,w,hw=>by
  unfold FQ at h
  cases c1:I6 final i v with
  | true=>grind
  | false =>
   rw[c1,cond_false]at h
   cases c2:Gg n many 0 (Bw v) with
   | none=>rw[c2]at h;cases h
   | some many' =>
    rw[c2]at h
    rcases List.mem_cons.1 hl with rfl | hl
    ·exact MX c2 w hw
    ·exact O9 h l hl w hw
theorem Pd {p:D.Proc}(h:Ef p=true):∀ l∈p.Locs,∀ w∈Bw l,w.length<=1024/\∀ t∈w,inP p.Locs.length t.To=true:=by
 unfold Ef at h
 simp only[Bool.and_eq_true]at h
 exact O9 h.2
theorem AdY {m:D.Model}(h:F2 m=true)(i:Nat)(hi:i<m.Procs.length):CW m i=true:=by
 obtain⟨_,_,h3⟩:=CB h
 exact E5 (f:=fun i:Nat=>CW m i) (by unfold H5 at h3;omega) i hi
theorem SJ {m:D.Model}(h:F2 m=true){i:Nat}(hi:i<m.Procs.length){l:D.Loc}(hl:l∈(m.Procs.getD i default).Locs){w:List D.Trans}(hw:w∈Bw l){t:D.Trans}(ht:t∈w):JV m i t.S=true:=by
 have h1:=AdY h i hi
 unfold CW at h1
 simp only[Bool.and_eq_true]at h1
 have h2:=(Co (d:=default) (f:=fun l:D.Loc=>Nu m i l)).1 h1.1 l hl
 unfold Nu at h2
 have h3:=(Co (d:=[]) (f:=fun w=>IL m i w)).1 h2 w hw
 unfold IL at h3
 exact(Co (d:=default) (f:=fun t:D.Trans=>JV m i t.S)).1 h3 t ht
structure C4 (m:D.Model) (s:D.Stmt):Prop where
 st:Au m s=true
 wf:Nz s
theorem C4.args {m:D.Model}{s:D.Stmt}(h:C4 m s):s.Args.length<=1048576:=h.wf.Args.1
theorem C4.k1 {m:D.Model}{s:D.Stmt}(h:C4 m s)(hk:s.Kind=1):0<=s.A/\s.A<m.Exprs.length:=by
 have:=h.st
 unfold Au at this
 rw[if_pos (.inl hk)]at this
 simp only[Bool.and_eq_true]at this
 exact B1.1 this.1.1
theorem C4.k2 {m:D.Model}{s:D.Stmt}(h:C4 m s)(hk:s.Kind=2):0<=s.B/\s.B<m.Exprs.length:=by
 have:=h.st
 unfold Au at this
 rw[if_neg (by omega),if_pos hk]at this
 simp only[Bool.and_eq_true]at this
 exact B1.1 this.1.2
theorem C4.k6 {m:D.Model}{s:D.Stmt}(h:C4 m s)(hk:s.Kind=6):s.Match.length=s.Args.length:=by
 have:=h.st
 unfold Au at this
 rw[if_neg (by omega),if_neg (by omega),if_neg (by omega),if_neg (by omega),if_pos hk]at this
 simp only[Bool.and_eq_true]at this
 have:=this.1.1.1.2
 unfold Fd BX at this
 grind
structure Ahj (m:D.Model) (n:Nat) (ws:List D.Trans):Prop where
 len:ws.length<=1024
 st:∀ t∈ws,C4 m t.S
 to:∀ t∈ws,inP n t.To=true
section
variable {e : D.Env}
theorem B5.ws (h:B5 e){ws:List D.Trans}(hw:ws∈Bw (Br e)):Ahj e.M (BQ e).Locs.length ws:=by
 have hf:=h.facts
 have hi:(Ci e e.Pid).Type_.toNat<e.M.Procs.length:=by omega
 have hl:Br e∈(BQ e).Locs:=An (by omega)
 have hg:=Pd (EJ (CB h.ok.may).2.1 _ hi).2 _ hl _ hw
 refine⟨hg.1,fun t ht=>⟨?_,?_⟩,hg.2⟩
 ·have:=SJ h.ok.may hi hl hw ht
  unfold JV at this
  grind
 ·have hwl:=h.wloc
  rcases List.mem_cons.1 hw with rfl | hw
  ·exact(hwl.Out.2 t ht).S
  ·exact((hwl.Esc.2 _ hw).2 t ht).S
theorem Ai5 {b:Bool}{er:Int}{l:List Pn}{r:Ab}(h:(⟨b,er,l⟩:Ab)=r):leO [] []/\VV.le (.agg [.sc (.bool b),.sc (.int .i64 er),Cl true l]) (.agg (BO r)):=by
 subst h;exact⟨trivial,VV.le_refl _⟩
theorem E0 {b:Bool}{er:Int}{r:Ab}(h:(⟨b,er,[]⟩:Ab)=r):leO [] []/\VV.le (.agg [.sc (.bool b),.sc (.int .i64 er),.nl]) (.agg (BO r)):=by
 subst h;exact⟨trivial,VV.le_agg ⟨VV.le_refl _,VV.le_refl _,VV.le_nil,trivial⟩⟩
end
section
variable {e : D.Env} {mt:Int->List Int->List Pn} {ws:List D.Trans} {self:Bool}
def KG (e:D.Env)(mt:Int->List Int->List Pn)(ws:List D.Trans)(self:Bool)(k:Nat):List Ab:=(List.range ws.length).map fun i=>if i<k then C1 e mt ws self i else BA e mt (ws.getD i default).S self
theorem Ps {k:Nat}:(KG e mt ws self k).length=ws.length:=by simp[KG]
theorem Pt {k i:Nat}(hi:i<ws.length):(KG e mt ws self k).getD i default=if i<k then C1 e mt ws self i else BA e mt (ws.getD i default).S self:=by simp[KG,List.getD,hi]
theorem AfI : KG e mt ws self ws.length=Dj e mt ws self:=by
 unfold KG Dj
 simp_all
theorem AfK : (Dj e mt ws self).length=ws.length:=by simp[Dj]
theorem Air {i k:Nat}(h:i≠k):Nat.beq i k=false:=by grind [Nat.eq_of_beq_eq_true]
end
section
variable {e : D.Env} {c:Int} {m:List Int}
theorem QF {i:Int}:∀ {ws:List D.Trans} {k:Nat},(DW e c m i k ws).length<=ws.length
 | [],_=>Nat.le_refl _
 | t::r,k=>by
  have:=QF (i:=i) (ws:=r) (k:=k+1)
  unfold DW
  cases DE e t.S c m<;>simp<;>omega
theorem Wg {i:Int}{k:Nat}{t:D.Trans}{r:List D.Trans}:DW e c m i k (t::r)=(bif DE e t.S c m then[⟨e.Pid,i,k⟩] else[])++DW e c m i (k+1) r:=rfl
theorem Ah4 {out:List Pn}{x:Pn}{G:Nat->List VV}(hG:G 0=Il x){i:Nat}(hi:i<out.length+1):(bif i.blt out.length then ET out i else G (i - out.length))=ET (out++[x]) i :=
 Bz (f:=Il) (d:=default) (l:=out) (r:=[x]) (F:=ET out) (fun _ _=>rfl) (by grind) (by simp;omega)
theorem OG {i:Int}{ws:List D.Trans}{r:List (Int × List D.Trans)}:Gr e c m ((i,ws)::r)=bif decide (0<(DW e c m i 0 ws).length)||isSome (Dj e Hu ws true) then DW e c m i 0 ws else Gr e c m r:=rfl
theorem QB {N:Nat}:∀ {ls:List (Int × List D.Trans)},(∀ p∈ls,p.2.length<=N)->(Gr e c m ls).length<=N
 | [],_=>Nat.zero_le _
 | (i,ws)::r,h=>by
  have h1:=h _ (List.mem_cons_self ..)
  have h2:=QB (ls:=r) fun p hp=>h p (List.mem_cons_of_mem _ hp)
  have h3:=QF (e:=e) (c:=c) (m:=m) (i:=i) (ws:=ws) (k:=0)
  rw[OG]
  grind
theorem QV : ∀ {r:List (List D.Trans)} {k:Nat} {p:Int × List D.Trans},p∈XW k r->p.2∈r
 | [],_,_,h=>by cases h
 | w::r,k,p,h=>by
  rcases List.mem_cons.1 h with rfl | h
  ·exact List.mem_cons_self ..
  ·exact List.mem_cons_of_mem _ (QV h)
theorem XA {l:D.Loc}{p:Int × List D.Trans}(h:p∈Gx l):p.2∈Bw l:=by
 rcases List.mem_append.1 h with h | h
 ·exact List.mem_cons_of_mem _ (QV h)
 ·rw[List.mem_singleton.1 h];exact List.mem_cons_self ..
theorem QG (h:B5 e):(DO e c m).length<=1024:=by
 unfold DO
 cases (!(A6 e).1||decide ((A6 e).2≠0)) with
 | true=>exact Nat.zero_le _
 | false=>exact QB fun p hp=>(h.ws (XA hp)).len
theorem B5.at (h:B5 e){k:Nat}(hk:k<e.S.Procs.length):B5 (Bq e k):=⟨⟨h.ok.fits,h.ok.may,h.ok.wf,by show -1<=(k:Int);omega,by show(k:Int)<_;exact Int.ofNat_lt.2 hk⟩,by show 0<=(k:Int);omega⟩
theorem Kv (h:B5 e):∀ {n:Nat},n<=e.S.Procs.length->(Da e c m n).length<=n*1024
 | 0,_=>Nat.zero_le _
 | n+1,hn=>by
  have h1:=Kv h (n:=n) (by omega)
  have h2:=QG (c:=c) (m:=m) (h.at (k:=n) (by omega))
  unfold Da
  grind
end
section
variable {e : D.Env}
theorem XB (h:B5 e){c:Int}{m:List Int}:(Bm e c m).length<=16384:=by
 have h1:=Kv (c:=c) (m:=m) h (Nat.le_refl _)
 have h2:=h.ok.fit.p
 have h3:e.S.Procs.length*1024<=16*1024:=Nat.mul_le_mul_right _ h2
 exact Nat.le_trans h1 h3
theorem ZP (h:B5 e){s:D.Stmt}{self:Bool}:(BA e (Bm e) s self).wth.length<=16384:=by
 have hz:([]:List Pn).length<=16384:=Nat.zero_le _
 unfold BA
 split
 ·cases BJ e s.A<;>exact hz
 split
 ·cases BJ e s.B<;>exact hz
 split
 ·exact hz
 split
 ·unfold Fg
  grind [XB]
 grind
theorem Ab8 {mt:Int->List Int->List Pn}{ws:List D.Trans}{self:Bool}{i:Nat}:(C1 e mt ws self i).wth=(BA e mt (ws.getD i default).S self).wth:=by
 unfold C1
 grind
theorem U2 (h:B5 e){ws:List D.Trans}{self:Bool}:∀ x∈Dj e (Bm e) ws self,x.wth.length<=16384:=by
 intro x hx
 unfold Dj at hx
 grind [Ab8,ZP]
theorem P8 {i:Int}{k:Nat}{x:Ab}{r:List Ab}:DC i k (x::r)=Fa i k x++DC i (k+1) r:=rfl
theorem Ah3 {out:List Wy}{x:Wy}{G:Nat->List VV}(hG:G 0=Bu x){i:Nat}(hi:i<out.length+1):(bif i.blt out.length then Gp out i else G (i - out.length))=Gp (out++[x]) i :=
 Bz (f:=Bu) (d:=default) (l:=out) (r:=[x]) (F:=Gp out) (fun _ _=>rfl) (by grind) (by simp;omega)
theorem Xo {i:Int}{ws:List D.Trans}{r:List (Int × List D.Trans)}:EI e ((i,ws)::r)=bif decide (0<(DC i 0 (Dj e (Bm e) ws false)).length) then DC i 0 (Dj e (Bm e) ws false) else EI e r:=rfl
theorem Ae5 {w:Wy}{r:List Wy}(h:[w]=r):leO [] []/\VV.le (.sl true 1 6 fun i=>List.take 6 (List.drop (i*6) (Bu w))) (BY true r):=by
 subst h
 refine⟨trivial,VV.le_sl (.inl rfl) fun i hi=>AZ ?_⟩
 obtain rfl:i=0:=by omega
 rfl
end
def AtL (w:World)(n:Nat)(R:Nat->Nat->Nat->Prop)(v:Value):Prop :=
 ∃ ao cap,v=.slice ao n cap/\n<=cap/\cap<=maxLen/\(0<n->∃ b off,ao=some ⟨b,off,none⟩/\b<w.heap.size/\∀ i,i<n->R b off i)
def AtI (w:World)(xs:List Int)(v:Value):Prop:=AtL w xs.length (fun b off i=>w.cell? ⟨b,off+i,none⟩=some (.int .i64 (xs.getD i 0))) v
section
variable {w : World} {E:A0} {m:Option Phi} {v:Value} {fz:Bool}
theorem Ajn {xs:List Int}(h:V w E m (Ad fz xs) v):AtI w xs v:=by
 obtain⟨ao,cap,rfl,h1,h2,h3⟩:=V.sl_inv h
 refine⟨ao,cap,rfl,h1,h2,fun hp=>?_⟩
 obtain⟨b,off,rfl,hb,_,_,u,hc,hv⟩:=h3 hp
 refine⟨b,off,rfl,hb,fun i hi=>?_⟩
 have c1:=hc i 0 _ hi rfl
 have c2:=(hv i 0 _ hi rfl).sc_inv
 rw[c2]at c1
 simpa using c1
end
end Go.Proofs.YtlhajmkjfcbhnaaGreat
namespace Go.Proofs.YtlhajmkjfcbhnaaGreat
end Go.Proofs.YtlhajmkjfcbhnaaGreat
namespace Go.Proofs.YtlhajmkjfcbhnaaGreat
open Go.RowKit
def Ac5 : Shp:={ α:=List D.Trans,enc:=fun y=>([],As true y) }
def Tp : Shp:={ α:=D.Proc,enc:=fun y=>([],.agg (AO y)) }
def A8 (f:FuncId):Shp :=
 bif Nat.beq f 136||Nat.beq f 91||Nat.beq f 130||Nat.beq f 137||Nat.beq f 6 then ZU else bif Nat.beq f 94 then Aga else bif Nat.beq f 95 then AiJ else bif Nat.beq f 55 then Ac7 else bif Nat.beq f 27 then VF else bif Nat.beq f 43 then Ac5 else bif Nat.beq f 38 then Tp else ZV
def HC : Ann:={ keep:=fun
  | [0,1,0,1,1,1,1,1,1]=>[1,2,6,7,8]
  | _=>[] }
def KL : Ann:={ keep:=fun
  | [0,1,0,1,1,1]=>[1,3,4]
  | _=>[] }
def KJ : Ann:={ keep:=fun
  | [0,1,0,1]=>[0,1,5]
  | _=>[] }
def KK : Ann:={ keep:=fun
  | [0,1,0,1,1]=>[1,3]
  | _=>[] }
def KM : Ann:={ keep:=fun
  | [0,1,0,1]=>[0,1,5]
  | _=>[] }
def Bk : Ann:={ cut:=(fun | [1,1,1,1]=>true | [1,1,1,1,1]=>true | [1,1,1,1,1,1]=>true | [1,1,1,1,1,1,1]=>true | _=>false),keep:=fun
  | [0,1,1,0,1,0,1,1,1,1,1,1,1]=>[1,3,5]
  | [1,1,1,1]=>[1,3,4]
  | [1,1,1,1,1]=>[1,3,4]
  | [1,1,1,1,1,1]=>[1,3]
  | [1,1,1,1,1,1,1]=>[1,3]
  | _=>[] }
def MH : Ann:={ keep:=fun
  | [0,1,0,1,1,1,1,1]=>[1,5,9]
  | _=>[] }
def Iu : Ann:={ keep:=fun
  | [0,1,0,1,1,1]=>[2,3,4,10]
  | _=>[] }
def JU : Ann:={ keep:=fun
  | [0,1,0,1,1,1,1,1]=>[1,2,5,6,7,8]
  | _=>[] }
def ED : Ann:={ keep:=fun
  | [0,1,0,1,1,1,1,1,1,1]=>[1,2,5,7,8]
  | [0,1,1,1,1,0,0,1,0,0,1,0,1,1,1,1,1,1,1]=>[1,2,5,7,8,10,11]
  | [0,1,1,1,0,0,1,0,0,1,1,1,1,0,0,1,0,0,1,0,1,1,1,1,1,1,1]=>[1,2,5,7,8,10,11,12]
  | _=>[] }
def JT : Ann:={ keep:=fun
  | [0,1,0,1,1,0,1,1,1,1,1,1,1,1,1,0,1,0,1,1,1,1,1,1,1]=>[2,3,12]
  | _=>[] }
def MI : Ann:={ keep:=fun
  | [0,1,0,1,1,1,1,1]=>[1,4,10,11]
  | _=>[] }
def GJ : Ann:={ keep:=fun
  | [0,1,0,1,1,1,1,1]=>[1,3,5,8]
  | _=>[] }
def DL : Ann:={ keep:=fun
  | [0,1,0,1,1]=>[1,2,5,6]
  | [0,1,1,0,0,1,0,0,1,0,1,1]=>[1,2,5,6,7,8]
  | [0,1,0,0,1,0,0,1,1,0,0,1,0,0,1,0,1,1]=>[1,2,5,6,7,8,9]
  | _=>[] }
def CS : Ann:={ keep:=fun
  | [0,1,0,1,1,1,1,1]=>[1,5]
  | [0,1,0,1,1,1,1,1,1]=>[1,7]
  | [0,1,0,1,1,1,1,1,1,1,1,1]=>[1,8,9]
  | [0,1,1,1,1,0,0,1,0,0,1,0,1,1,1,1,1,1,1,1,1]=>[1,8,9,11,12]
  | _=>[] }
def GL : Ann:={ keep:=fun
  | [0,1,0,1,1,1,1]=>[1,7,8]
  | [0,1,0,1,1,1,1,1,1]=>[1,10]
  | _=>[] }
def Ji : Ann:={ keep:=fun
  | [0,1,0,1,1]=>[0,1,5]
  | _=>[] }
def GK : Ann:={ keep:=fun
  | [0,1,0,1,1,1,1]=>[2,3,6]
  | [0,1,1,1,0,0,1,0,0,1,0,1,1,1,1]=>[2,3,6,7,8]
  | [0,1,0,1,1,1,1,1]=>[2,3,9]
  | _=>[] }
def Jv (t:D.Type)(v most n i:Int):St:=Av [(1,Aa v),(2,.bp 0 0),(6,Aa most),(7,Aa n),(8,Aa i)] [.box (Bs t)]
def Lg (v:D.Var)(n k:Int):St:=Av [(1,.bp 0 0),(3,Aa n),(4,Aa k)] [.box (BN v)]
def Tb (t:List D.Type)(v:List Int)(k:Int):St:=Av [(0,Az true t),(1,Ad true v),(5,Aa k)] []
def Lf (s:D.Shape)(k:Int):St:=Av [(1,.bp 0 0),(3,Aa k)] [.box (BZ s)]
def Lj (fz:Bool)(a:Int)(l:List Int)(k:Int):St:=Av [(0,Aa a),(1,Ad fz l),(5,Aa k)] []
def NK (x:D.Expr)(l:List Int)(k:Int):St:=Av [(1,.bp 0 0),(3,.ow 1 0 l.length),(5,Aa k)] [.box (AE x),.arr true 0 l.length 1 (AJ l)]
def FE (x:D.Expr)(l:List Int)(n:Int):St:=Av [(1,.bp 0 0),(3,.ow 1 0 l.length),(4,Aa n)] [.box (AE x),.arr true 0 l.length 1 (AJ l)]
def Hh (x:D.Expr)(l:List Int):St:=Av [(1,.bp 0 0),(3,.ow 1 0 l.length)] [.box (AE x),.arr true 0 l.length 1 (AJ l)]
def NF (a:Int)(v:D.Var)(k:Int):St:=Av [(1,Aa a),(5,.bp 0 0),(9,Aa k)] [.box (BN v)]
def HT (m:D.Model)(args mt:List Int)(k:Int):St:=Av [(2,Ad true args),(3,Ad true mt),(4,.bp 0 0),(10,Aa k)] [.box (Af m)]
def NL (m:D.Model)(a:Int)(x:D.Expr)(n k:Int):St:=Av [(1,Aa a),(2,.bp 0 0),(5,.bp 1 0),(6,Aa n),(7,.ow 2 0 3),(8,Aa k)] [.box (Af m),.box (AE x),.arr true 0 3 1 (AJ [x.A,x.B,x.C])]
def F6 (m:D.Model)(a:Int)(p:D.Proc)(many k:Int):St:=Av [(1,Aa a),(2,.bp 0 0),(5,.bp 1 0),(7,Aa many),(8,Aa k)] [.box (Af m),.box (AO p)]
def Hf (m:D.Model)(a:Int)(p:D.Proc)(many k:Int)(ws:List (List D.Trans))(j:Int):St:=Av [(1,Aa a),(2,.bp 0 0),(5,.bp 1 0),(7,Aa many),(8,Aa k),(10,AW true ws),(11,Aa j)] [.box (Af m),.box (AO p)]
def Ju (m:D.Model)(a:Int)(p:D.Proc)(many k:Int)(ws:List (List D.Trans))(j h:Int):St:=Av [(1,Aa a),(2,.bp 0 0),(5,.bp 1 0),(7,Aa many),(8,Aa k),(10,AW true ws),(11,Aa j),(12,Aa h)] [.box (Af m),.box (AO p)]
def Ld (m:D.Model)(s:D.Stmt)(k:Int):St:=Av [(2,.bp 0 0),(3,.bp 1 0),(12,Aa k)] [.box (Af m),.box (Ar s)]
def NG (m:D.Model)(a:Int)(l:List Int)(k:Int):St:=Av [(1,Aa a),(4,.bp 0 0),(10,Ad true l),(11,Aa k)] [.box (Af m)]
def IT (m:D.Model)(a:Int)(s:D.Stmt)(k:Int):St:=Av [(1,Aa a),(3,.bp 0 0),(5,.bp 1 0),(8,Aa k)] [.box (Af m),.box (Ar s)]
def He (m:D.Model)(a:Int)(p:D.Proc)(k:Int):St:=Av [(1,Aa a),(2,.bp 0 0),(5,.bp 1 0),(6,Aa k)] [.box (Af m),.box (AO p)]
def IS (m:D.Model)(a:Int)(p:D.Proc)(k:Int)(ws:List (List D.Trans))(j:Int):St:=Av [(1,Aa a),(2,.bp 0 0),(5,.bp 1 0),(6,Aa k),(7,AW true ws),(8,Aa j)] [.box (Af m),.box (AO p)]
def Lc (m:D.Model)(a:Int)(p:D.Proc)(k:Int)(ws:List (List D.Trans))(j h:Int):St:=Av [(1,Aa a),(2,.bp 0 0),(5,.bp 1 0),(6,Aa k),(7,AW true ws),(8,Aa j),(9,Aa h)] [.box (Af m),.box (AO p)]
def NI (m:D.Model)(k:Int):St:=Av [(1,.bp 0 0),(5,Aa k)] [.box (Af m)]
def NH (m:D.Model)(k:Int):St:=Av [(1,.bp 0 0),(7,Aa k)] [.box (Af m)]
def RJ (m:D.Model)(had:List Bool)(k:Int):St:=Av [(1,.bp 0 0),(8,.ow 1 0 had.length),(9,Aa k)] [.box (Af m),.arr true 0 had.length 1 (EU had)]
def RH (m:D.Model)(had:List Bool)(k:Int)(l:List Int)(j:Int):St:=Av [(1,.bp 0 0),(8,.ow 1 0 had.length),(9,Aa k),(11,Ad true l),(12,Aa j)] [.box (Af m),.arr true 0 had.length 1 (EU had)]
def Jx (m:D.Model)(many k:Int):St:=Av [(1,.bp 0 0),(7,Aa many),(8,Aa k)] [.box (Af m)]
def Jw (m:D.Model)(k:Int):St:=Av [(1,.bp 0 0),(10,Aa k)] [.box (Af m)]
def F5 (t:List D.Type)(l:List Int)(k:Int):St:=Av [(0,Az true t),(1,Ad true l),(5,Aa k)] []
def Li (m:D.Model)(s:D.State)(k:Int):St:=Av [(2,.bp 0 0),(3,.bp 1 0),(6,Aa k)] [.box (Af m),.box (Ae s)]
def NJ (m:D.Model)(s:D.State)(k:Int)(c:D.Chan)(j:Int):St:=Av [(2,.bp 0 0),(3,.bp 1 0),(6,Aa k),(7,.bp 2 0),(8,Aa j)] [.box (Af m),.box (Ae s),.box (Aw c)]
def Lh (m:D.Model)(s:D.State)(k:Int):St:=Av [(2,.bp 0 0),(3,.bp 1 0),(9,Aa k)] [.box (Af m),.box (Ae s)]
def IU (a b:List Int)(k:Int):St:=Av [(0,Ad true a),(1,Ad true b),(5,Aa k)] []
set_option maxRecDepth 100000
theorem Adr (b:Bool)(t:D.Type):(fc A8 A5 Tryz.f105 [] (Ac b)).goal (St.init [] [.agg (Bs t)]) =
  (LQ (Ac (bif bif decide (t.Bits>=1) then decide (t.Bits<=32) else false then bif bif !t.Signed then true else t.Bits==16 then true else t.Bits==32 else false)) (Ac b)):=by kernel_rfl
theorem Aao (b:Bool)(t:D.Type)(v:Int):(fc A8 HC Tryz.f66 [] (Ac b)).goal (St.init [] [.agg (Bs t),Aa v]) =
  (∃ (y:Bool),VC 105 [VV.agg (Bs t)] (Ac y)/\BB (!y) (LQ (Ac false) (Ac b)) (BB t.Signed (Aq (fc A8 HC Tryz.f66 [] (Ac b)) [1,1,1,1,1,1,0,1,0] (Jv t v (1:Int) (IntKind.i64.wrap (t.Bits - (1:Int))) (0:Int))) (Aq (fc A8 HC Tryz.f66 [] (Ac b)) [1,1,1,1,1,1,0,1,0] (Jv t v (1:Int) t.Bits (0:Int))))):=by kernel_rfl
theorem V4 (r:Int)(v:D.Var):(fc A8 KL Tryz.f136 [] (Aa r)).goal (St.init [] [.agg (BN v)]) =
  (BB (bif bif decide (v.Slot<0) then true else decide (v.Slot > 1073741824) then true else decide ((↑v.Dims.length:Int) > 4)) (LQ (Aa 0) (Aa r)) (Aq (fc A8 KL Tryz.f136 [] (Aa r)) [1,1,1,0,1,0] (Lg v (IntKind.i64.wrap (v.Slot+(1:Int))) (0:Int)))):=by kernel_rfl
theorem VW (r:Int)(t:List D.Type)(v:List Int):(fc A8 KJ Tryz.f91 [] (Aa r)).goal (St.init [] [Az true t,Ad true v]) =
  (Aq (fc A8 KJ Tryz.f91 [] (Aa r)) [1,0,1,0] (F5 t v (0:Int))):=by kernel_rfl
theorem V2 (b:Bool)(s:D.Shape):(fc A8 KK Tryz.f92 [] (Ac b)).goal (St.init [] [.agg (BZ s)]) =
  (BB (bif bif bif decide (s.Room<0) then true else decide (s.Room > 16) then true else decide ((↑s.Fields.length:Int)<1) then true else decide ((↑s.Fields.length:Int) > 8)) (LQ (Ac false) (Ac b)) (Aq (fc A8 KK Tryz.f92 [] (Ac b)) [1,1,0,1,0] (Lf s (0:Int)))):=by kernel_rfl
theorem TJ (b:Bool)(m:D.Model)(n:Int):(fc A8 A5 Tryz.f132 [] (Ac b)).goal (St.init [] [.agg (Af m),Aa n]) =
  (LQ (Ac (bif bif decide (n>=0) then decide (n<(↑m.Procs.length:Int)) else false then n != m.Claim else false)) (Ac b)):=by kernel_rfl
theorem Wk (b:Bool)(a:Int)(l:List Int):(fc A8 KM Tryz.f131 [] (Ac b)).goal (St.init [] [Aa a,Ad false l]) =
  (Aq (fc A8 KM Tryz.f131 [] (Ac b)) [1,0,1,0] (Lj false a l (0:Int))):=by kernel_rfl
theorem V5 (r:Int)(op:Int):(fc A8 A5 Tryz.f130 [] (Aa r)).goal (St.init [] [Aa op]) =
  (BB (op==1) (BB (op==1) (LQ (Aa 0) (Aa r)) (BB (op==24) (LQ (Aa 3) (Aa r)) (BB (bif decide (op>=6) then decide (op<=23) else false) (LQ (Aa 2) (Aa r)) (LQ (Aa 1) (Aa r))))) (BB (op==2) (BB (op==2) (LQ (Aa 0) (Aa r)) (BB (op==24) (LQ (Aa 3) (Aa r)) (BB (bif decide (op>=6) then decide (op<=23) else false) (LQ (Aa 2) (Aa r)) (LQ (Aa 1) (Aa r))))) (BB (op==31) (BB (op==31) (LQ (Aa 0) (Aa r)) (BB (op==24) (LQ (Aa 3) (Aa r)) (BB (bif decide (op>=6) then decide (op<=23) else false) (LQ (Aa 2) (Aa r)) (LQ (Aa 1) (Aa r))))) (BB (op==32) (BB (op==32) (LQ (Aa 0) (Aa r)) (BB (op==24) (LQ (Aa 3) (Aa r)) (BB (bif decide (op>=6) then decide (op<=23) else false) (LQ (Aa 2) (Aa r)) (LQ (Aa 1) (Aa r))))) (BB (op==33) (BB (op==33) (LQ (Aa 0) (Aa r)) (BB (op==24) (LQ (Aa 3) (Aa r)) (BB (bif decide (op>=6) then decide (op<=23) else false) (LQ (Aa 2) (Aa r)) (LQ (Aa 1) (Aa r))))) (BB (op==34) (BB (op==34) (LQ (Aa 0) (Aa r)) (BB (op==24) (LQ (Aa 3) (Aa r)) (BB (bif decide (op>=6) then decide (op<=23) else false) (LQ (Aa 2) (Aa r)) (LQ (Aa 1) (Aa r))))) (BB (op==35) (BB (op==35) (LQ (Aa 0) (Aa r)) (BB (op==24) (LQ (Aa 3) (Aa r)) (BB (bif decide (op>=6) then decide (op<=23) else false) (LQ (Aa 2) (Aa r)) (LQ (Aa 1) (Aa r))))) (BB (op==39) (LQ (Aa 0) (Aa r)) (BB (op==24) (LQ (Aa 3) (Aa r)) (BB (bif decide (op>=6) then decide (op<=23) else false) (LQ (Aa 2) (Aa r)) (LQ (Aa 1) (Aa r)))))))))))):=by kernel_rfl
theorem Aan (r:List Int)(x:D.Expr):(fc A8 Bk Tryz.f94 [] (Ad true r)).goal (St.init [] [.agg (AE x)]) =
  (∃ (y:Int),VC 130 [Aa x.Op] (Aa y)/\BB (decide (y>=1)) (1*8<=140737488355328/\Aq (fc A8 Bk Tryz.f94 [] (Ad true r)) [1,1,1,1] (Av [(1,VV.bp 0 0),(3,VV.ow 1 0 1),(4,Aa y)] [Ob.box (AE x),Ob.arr true 0 1 1 fun(i:Nat)=>List.take 1 (List.drop (i*1) [Aa x.A])])) (Aq (fc A8 Bk Tryz.f94 [] (Ad true r)) [1,1,1,1] (Av [(1,VV.bp 0 0),(3,VV.nl),(4,Aa y)] [Ob.box (AE x)]))):=by kernel_rfl
theorem Z9 (b:Bool)(m:D.Model)(a:Int)(v:D.Var):(fc A8 MH Tryz.f133 [] (Ac b)).goal (St.init [] [.agg (Af m),Aa a,.agg (BN v)]) =
  (BB (bif bif bif bif decide (v.Scope<0) then true else decide (v.Scope > 2) then true else decide (v.Slot<0) then true else decide (v.Slot > 128) then true else decide ((↑v.Dims.length:Int) > 4)) (LQ (Ac false) (Ac b)) (∃ (y:Bool),VC 131 [Aa a,VV.sl false 1 1 fun(i:Nat)=>List.take 1 (List.drop (i*1) [Aa v.Who])] (Ac y)/\∃ (y_1:Bool),VC 132 [VV.agg (Af m),Aa v.Type_] (Ac y_1)/\BB (bif bif v.Scope==2 then bif !y then true else !y_1 else false then true else bif v.Scope != 2 then bif v.Who != (-1:Int) then true else v.Type_ != (-1:Int) else false) (LQ (Ac false) (Ac b)) (Aq (fc A8 MH Tryz.f133 [] (Ac b)) [1,1,1,1,1,0,1,0] (NF a v (0:Int))))):=by kernel_rfl
theorem RT (b:Bool)(m:D.Model)(a:Int)(args mt:List Int):(fc A8 Iu Tryz.f134 [] (Ac b)).goal (St.init [] [.agg (Af m),Aa a,Ad true args,Ad true mt]) =
  (∃ (y:Bool),VC 131 [Aa a,Ad true args] (Ac y)/\BB (bif bif bif !y then true else decide ((↑args.length:Int)<1) then true else decide ((↑args.length:Int) > 8) then true else(↑mt.length:Int) != (↑args.length:Int)) (LQ (Ac false) (Ac b)) (Aq (fc A8 Iu Tryz.f134 [] (Ac b)) [1,1,1,0,1,0] (HT m args mt (0:Int)))):=by kernel_rfl
theorem Aap (b:Bool)(m:D.Model)(a:Int):(fc A8 JU Tryz.f93 [] (Ac b)).goal (St.init [] [.agg (Af m),Aa a]) =
  (inX a m.Exprs.length/\BB (bif decide ((m.Exprs.getD a.toNat default).Op<1) then true else decide ((m.Exprs.getD a.toNat default).Op > 39)) (LQ (Ac false) (Ac b)) (∃ (y:Int),VC 130 [Aa (m.Exprs.getD a.toNat default).Op] (Aa y)/\Aq (fc A8 JU Tryz.f93 [] (Ac b)) [1,1,1,1,1,0,1,0] (Av [(1,Aa a),(2,VV.bp 0 0),(5,VV.bp 1 0),(6,Aa y),(7,VV.ow 2 0 3),(8,Aa 0)] [Ob.box (Af m),Ob.box (AE (m.Exprs.getD a.toNat default)),Ob.arr true 0 3 1 fun(i:Nat)=>List.take 1 (List.drop (i*1) [Aa (m.Exprs.getD a.toNat default).A,Aa (m.Exprs.getD a.toNat default).B,Aa (m.Exprs.getD a.toNat default).C])]))):=by kernel_rfl
theorem Z6 (r:List (List D.Trans))(l:D.Loc):(fc A8 A5 Tryz.f95 [] (AW true r)).goal (St.init [] [.agg (Bf l)]) =
  (1*24<=140737488355328/\(1+l.Esc.length)*24<=140737488355328/\(∀ (i:Nat),i<l.Esc.length->((fun(i:Nat)=>[As true (l.Esc.getD i [])]) i).all VV.mem1=true)/\LQ (VV.sl true (1+l.Esc.length) 1 fun(i:Nat)=>bif i.blt 1 then(fun(i:Nat)=>List.take 1 (List.drop (i*1) [As true l.Out])) i else[As true (l.Esc.getD (i - 1) [])]) (AW true r)):=by kernel_rfl
theorem VY (b:Bool)(m:D.Model)(a:Int):(fc A8 ED Tryz.f56 [] (Ac b)).goal (St.init [] [.agg (Af m),Aa a]) =
  (inX a m.Procs.length/\BB (bif bif bif bif bif decide ((↑(m.Procs.getD a.toNat default).Frame.length:Int) > 128) then true else(↑(m.Procs.getD a.toNat default).Init.length:Int) != (↑(m.Procs.getD a.toNat default).Frame.length:Int) then true else decide ((m.Procs.getD a.toNat default).Params<0) then true else decide ((m.Procs.getD a.toNat default).Params > (↑(m.Procs.getD a.toNat default).Frame.length:Int)) then true else decide ((↑(m.Procs.getD a.toNat default).Locs.length:Int)<1) then true else decide ((↑(m.Procs.getD a.toNat default).Locs.length:Int) > 256)) (LQ (Ac false) (Ac b)) (∃ (y:Int),VC 91 [Az true (m.Procs.getD a.toNat default).Frame,Ad true (m.Procs.getD a.toNat default).Init] (Aa y)/\BB (bif bif bif bif bif bif bif bif bif bif decide (y>=0) then true else decide ((m.Procs.getD a.toNat default).Start<0) then true else decide ((m.Procs.getD a.toNat default).Start>=(↑(m.Procs.getD a.toNat default).Locs.length:Int)) then true else decide ((m.Procs.getD a.toNat default).Final<0) then true else decide ((m.Procs.getD a.toNat default).Final>=(↑(m.Procs.getD a.toNat default).Locs.length:Int)) then true else decide ((m.Procs.getD a.toNat default).Active<0) then true else decide ((m.Procs.getD a.toNat default).Active > 16) then true else decide ((m.Procs.getD a.toNat default).Prio<1) then true else decide ((m.Procs.getD a.toNat default).Prio > 255) then true else decide ((m.Procs.getD a.toNat default).Provided<(-1:Int)) then true else decide ((m.Procs.getD a.toNat default).Provided>=(↑m.Exprs.length:Int))) (LQ (Ac false) (Ac b)) (BB (bif a==m.Claim then bif bif decide ((↑(m.Procs.getD a.toNat default).Frame.length:Int) > 0) then true else decide ((m.Procs.getD a.toNat default).Active > 0) then true else decide ((m.Procs.getD a.toNat default).Provided>=0) else false) (LQ (Ac false) (Ac b)) (Aq (fc A8 ED Tryz.f56 [] (Ac b)) [1,1,1,1,1,1,1,0,1,0] (F6 m a (m.Procs.getD a.toNat default) (0:Int) (0:Int)))))):=by kernel_rfl
theorem Ty (b:Bool)(m:D.Model)(a:Int):(fc A8 A5 Tryz.f158 [] (Ac b)).goal (St.init [] [.agg (Af m),Aa a]) =
  (((true&&(bif decide (a>=0) then decide (a<(↑m.Exprs.length:Int)) else false)==true)=true->inX a m.Exprs.length)/\((true&&(bif bif decide (a>=0) then decide (a<(↑m.Exprs.length:Int)) else false then(m.Exprs.getD a.toNat default).Op==2 else false)==true)=true->inX a m.Exprs.length)/\LQ (Ac (bif bif bif decide (a>=0) then decide (a<(↑m.Exprs.length:Int)) else false then(m.Exprs.getD a.toNat default).Op==2 else false then(m.Exprs.getD a.toNat default).V.Scope != 2 else false)) (Ac b)):=by kernel_rfl
theorem Aaf (b:Bool)(m:D.Model)(s:D.Stmt):(fc A8 JT Tryz.f135 [] (Ac b)).goal (St.init [] [.agg (Af m),.agg (Ar s)]) =
  (∃ (y:Bool),VC 158 [VV.agg (Af m),Aa s.A] (Ac y)/\∃ (y_1:Bool),VC 131 [Aa (↑m.Exprs.length:Int),Ad true s.Args] (Ac y_1)/\BB (s.Kind==1) (BB (s.Kind==1) (LQ (Ac (bif bif bif bif bif decide (s.A>=0) then decide (s.A<(↑m.Exprs.length:Int)) else false then s.B==(-1:Int) else false then bif (↑s.Args.length:Int)==0 then(↑s.Match.length:Int)==0 else false else false then s.N==0 else false then s.Text.toList==(⟨#[]⟩:ByteArray).toList else false)) (Ac b)) (BB (s.Kind==2) (LQ (Ac (bif bif bif bif y then bif decide (s.B>=0) then decide (s.B<(↑m.Exprs.length:Int)) else false else false then bif (↑s.Args.length:Int)==0 then(↑s.Match.length:Int)==0 else false else false then s.N==0 else false then s.Text.toList==(⟨#[]⟩:ByteArray).toList else false)) (Ac b)) (BB (s.Kind==4) (LQ (Ac (bif bif bif bif bif s.A==(-1:Int) then s.B==(-1:Int) else false then y_1 else false then(↑s.Match.length:Int)==0 else false then s.N==0 else false then decide ((↑s.Text.size:Int)<=256) else false)) (Ac b)) (BB (s.Kind==5) (LQ (Ac (bif bif bif bif bif bif bif bif decide (s.A>=0) then decide (s.A<(↑m.Exprs.length:Int)) else false then s.B==(-1:Int) else false then y_1 else false then decide ((↑s.Args.length:Int)>=1) else false then decide ((↑s.Args.length:Int)<=8) else false then(↑s.Match.length:Int)==0 else false then bif s.N==0 then true else s.N==1 else false then s.Text.toList==(⟨#[]⟩:ByteArray).toList else false)) (Ac b)) (BB (s.Kind==6) (∃ (y:Bool),VC 134 [VV.agg (Af m),Aa (↑m.Exprs.length:Int),Ad true s.Args,Ad true s.Match] (Ac y)/\BB (bif bif bif bif bif !bif decide (s.A>=0) then decide (s.A<(↑m.Exprs.length:Int)) else false then true else s.B != (-1:Int) then true else !y then true else decide (s.N<0) then true else decide (s.N > 3) then true else !s.Text.toList==(⟨#[]⟩:ByteArray).toList) (LQ (Ac false) (Ac b)) (Aq (fc A8 JT Tryz.f135 [] (Ac b)) [1,1,1,1,1,1,1,0,1,0,1,1,1,1,1,1,1,1,1,0,1,1,0,1,0] (Ld m s (0:Int)))) (BB (s.Kind==7) (BB (s.Kind==7) (LQ (Ac (bif bif bif bif s.A==(-1:Int) then s.B==(-1:Int) else false then bif (↑s.Args.length:Int)==0 then(↑s.Match.length:Int)==0 else false else false then s.N==0 else false then s.Text.toList==(⟨#[]⟩:ByteArray).toList else false)) (Ac b)) (BB (s.Kind==9) (LQ (Ac (bif bif bif bif bif y then s.B==(-1:Int) else false then bif (↑s.Args.length:Int)==0 then(↑s.Match.length:Int)==0 else false else false then decide (s.N>=0) else false then decide (s.N<(↑m.Shapes.length:Int)) else false then s.Text.toList==(⟨#[]⟩:ByteArray).toList else false)) (Ac b)) (LQ (Ac false) (Ac b)))) (BB (s.Kind==8) (LQ (Ac (bif bif bif bif s.A==(-1:Int) then s.B==(-1:Int) else false then bif (↑s.Args.length:Int)==0 then(↑s.Match.length:Int)==0 else false else false then s.N==0 else false then s.Text.toList==(⟨#[]⟩:ByteArray).toList else false)) (Ac b)) (BB (s.Kind==9) (LQ (Ac (bif bif bif bif bif y then s.B==(-1:Int) else false then bif (↑s.Args.length:Int)==0 then(↑s.Match.length:Int)==0 else false else false then decide (s.N>=0) else false then decide (s.N<(↑m.Shapes.length:Int)) else false then s.Text.toList==(⟨#[]⟩:ByteArray).toList else false)) (Ac b)) (LQ (Ac false) (Ac b)))))))))) (BB (s.Kind==3) (LQ (Ac (bif bif bif bif bif decide (s.A>=0) then decide (s.A<(↑m.Exprs.length:Int)) else false then s.B==(-1:Int) else false then bif (↑s.Args.length:Int)==0 then(↑s.Match.length:Int)==0 else false else false then s.N==0 else false then s.Text.toList==(⟨#[]⟩:ByteArray).toList else false)) (Ac b)) (BB (s.Kind==2) (LQ (Ac (bif bif bif bif y then bif decide (s.B>=0) then decide (s.B<(↑m.Exprs.length:Int)) else false else false then bif (↑s.Args.length:Int)==0 then(↑s.Match.length:Int)==0 else false else false then s.N==0 else false then s.Text.toList==(⟨#[]⟩:ByteArray).toList else false)) (Ac b)) (BB (s.Kind==4) (LQ (Ac (bif bif bif bif bif s.A==(-1:Int) then s.B==(-1:Int) else false then y_1 else false then(↑s.Match.length:Int)==0 else false then s.N==0 else false then decide ((↑s.Text.size:Int)<=256) else false)) (Ac b)) (BB (s.Kind==5) (LQ (Ac (bif bif bif bif bif bif bif bif decide (s.A>=0) then decide (s.A<(↑m.Exprs.length:Int)) else false then s.B==(-1:Int) else false then y_1 else false then decide ((↑s.Args.length:Int)>=1) else false then decide ((↑s.Args.length:Int)<=8) else false then(↑s.Match.length:Int)==0 else false then bif s.N==0 then true else s.N==1 else false then s.Text.toList==(⟨#[]⟩:ByteArray).toList else false)) (Ac b)) (BB (s.Kind==6) (∃ (y:Bool),VC 134 [VV.agg (Af m),Aa (↑m.Exprs.length:Int),Ad true s.Args,Ad true s.Match] (Ac y)/\BB (bif bif bif bif bif !bif decide (s.A>=0) then decide (s.A<(↑m.Exprs.length:Int)) else false then true else s.B != (-1:Int) then true else !y then true else decide (s.N<0) then true else decide (s.N > 3) then true else !s.Text.toList==(⟨#[]⟩:ByteArray).toList) (LQ (Ac false) (Ac b)) (Aq (fc A8 JT Tryz.f135 [] (Ac b)) [1,1,1,1,1,1,1,0,1,0,1,1,1,1,1,1,1,1,1,0,1,1,0,1,0] (Ld m s (0:Int)))) (BB (s.Kind==7) (BB (s.Kind==7) (LQ (Ac (bif bif bif bif s.A==(-1:Int) then s.B==(-1:Int) else false then bif (↑s.Args.length:Int)==0 then(↑s.Match.length:Int)==0 else false else false then s.N==0 else false then s.Text.toList==(⟨#[]⟩:ByteArray).toList else false)) (Ac b)) (BB (s.Kind==9) (LQ (Ac (bif bif bif bif bif y then s.B==(-1:Int) else false then bif (↑s.Args.length:Int)==0 then(↑s.Match.length:Int)==0 else false else false then decide (s.N>=0) else false then decide (s.N<(↑m.Shapes.length:Int)) else false then s.Text.toList==(⟨#[]⟩:ByteArray).toList else false)) (Ac b)) (LQ (Ac false) (Ac b)))) (BB (s.Kind==8) (LQ (Ac (bif bif bif bif s.A==(-1:Int) then s.B==(-1:Int) else false then bif (↑s.Args.length:Int)==0 then(↑s.Match.length:Int)==0 else false else false then s.N==0 else false then s.Text.toList==(⟨#[]⟩:ByteArray).toList else false)) (Ac b)) (BB (s.Kind==9) (LQ (Ac (bif bif bif bif bif y then s.B==(-1:Int) else false then bif (↑s.Args.length:Int)==0 then(↑s.Match.length:Int)==0 else false else false then decide (s.N>=0) else false then decide (s.N<(↑m.Shapes.length:Int)) else false then s.Text.toList==(⟨#[]⟩:ByteArray).toList else false)) (Ac b)) (LQ (Ac false) (Ac b))))))))))):=by kernel_rfl
theorem Aag (r:Int)(m:D.Model)(a:Int)(v:D.Var):(fc A8 A5 Tryz.f137 [] (Aa r)).goal (St.init [] [.agg (Af m),Aa a,.agg (BN v)]) =
  (BB (v.Scope==0) (LQ (Aa (↑m.Globals.length:Int)) (Aa r)) (BB (v.Scope==1) (inX a m.Procs.length/\LQ (Aa (↑(m.Procs.getD a.toNat default).Frame.length:Int)) (Aa r)) (inX v.Type_ m.Procs.length/\LQ (Aa (↑(m.Procs.getD v.Type_.toNat default).Frame.length:Int)) (Aa r)))):=by kernel_rfl
theorem Aaa (b:Bool)(m:D.Model)(a k:Int)(run:Bool):(fc A8 MI Tryz.f97 [] (Ac b)).goal (St.init [] [.agg (Af m),Aa a,Aa k,Ac run]) =
  (inX k m.Exprs.length/\BB (bif bif (m.Exprs.getD k.toNat default).Op==39 then !run else false then true else bif a==m.Claim then bif bif (m.Exprs.getD k.toNat default).Op==31 then true else(m.Exprs.getD k.toNat default).Op==39 then true else bif (m.Exprs.getD k.toNat default).Op==2 then(m.Exprs.getD k.toNat default).V.Scope==1 else false else false) (LQ (Ac false) (Ac b)) (∃ (y:Int),((true&&((m.Exprs.getD k.toNat default).Op==2)==true)=true->VC 136 [VV.agg (BN (m.Exprs.getD k.toNat default).V)] (Aa y))/\∃ (y_1:Int),((true&&((m.Exprs.getD k.toNat default).Op==2)==true)=true->VC 137 [VV.agg (Af m),Aa a,VV.agg (BN (m.Exprs.getD k.toNat default).V)] (Aa y_1))/\BB (bif (m.Exprs.getD k.toNat default).Op==2 then decide (y > y_1) else false) (LQ (Ac false) (Ac b)) (∃ (y:List Int),VC 94 [VV.agg (AE (m.Exprs.getD k.toNat default))] (Ad true y)/\Aq (fc A8 MI Tryz.f97 [] (Ac b)) [1,1,1,1,1,0,1,0] (NG m a y (0:Int))))):=by kernel_rfl
theorem Ado (b:Bool)(m:D.Model)(a:Int)(s:D.Stmt):(fc A8 GJ Tryz.f96 [] (Ac b)).goal (St.init [] [.agg (Af m),Aa a,.agg (Ar s)]) =
  (∃ (y:Bool),VC 135 [VV.agg (Af m),VV.agg (Ar s)] (Ac y)/\BB (bif !y then true else bif bif bif bif a==m.Claim then s.Kind != 1 else false then s.Kind != 3 else false then s.Kind != 7 else false then s.Kind != 8 else false) (LQ (Ac false) (Ac b)) (BB (decide (s.A>=0)) (∃ (y:Bool),VC 97 [VV.agg (Af m),Aa a,Aa s.A,Ac (s.Kind==1)] (Ac y)/\BB (!y) (LQ (Ac false) (Ac b)) (BB (decide (s.B>=0)) (∃ (y:Bool),VC 97 [VV.agg (Af m),Aa a,Aa s.B,Ac (s.Kind==2)] (Ac y)/\BB (!y) (LQ (Ac false) (Ac b)) (Aq (fc A8 GJ Tryz.f96 [] (Ac b)) [1,1,1,1,1,0,1,0] (IT m a s (0:Int)))) (Aq (fc A8 GJ Tryz.f96 [] (Ac b)) [1,1,1,1,1,0,1,0] (IT m a s (0:Int))))) (BB (decide (s.B>=0)) (∃ (y:Bool),VC 97 [VV.agg (Af m),Aa a,Aa s.B,Ac (s.Kind==2)] (Ac y)/\BB (!y) (LQ (Ac false) (Ac b)) (Aq (fc A8 GJ Tryz.f96 [] (Ac b)) [1,1,1,1,1,0,1,0] (IT m a s (0:Int)))) (Aq (fc A8 GJ Tryz.f96 [] (Ac b)) [1,1,1,1,1,0,1,0] (IT m a s (0:Int)))))):=by kernel_rfl
theorem RN (b:Bool)(m:D.Model)(a:Int):(fc A8 DL Tryz.f57 [] (Ac b)).goal (St.init [] [.agg (Af m),Aa a]) =
  (inX a m.Procs.length/\Aq (fc A8 DL Tryz.f57 [] (Ac b)) [1,1,0,1,0] (He m a (m.Procs.getD a.toNat default) (0:Int))):=by kernel_rfl
theorem Tz (r e:Int)(m:D.Model):(fc A8 CS Tryz.f55 [] (.tup [Aa r,Aa e])).goal (St.init [] [.agg (Af m)]) =
  (BB (bif decide ((↑m.Globals.length:Int) > 128) then true else(↑m.Init.length:Int) != (↑m.Globals.length:Int)) (LQ (VV.tup [Aa 1,Aa (-1)]) (VV.tup [Aa r,Aa e])) (∃ (y:Int),VC 91 [Az true m.Globals,Ad true m.Init] (Aa y)/\BB (decide (y>=0)) (LQ (VV.tup [Aa 1,Aa y]) (VV.tup [Aa r,Aa e])) (BB (bif decide ((↑m.Shapes.length:Int) > 32) then true else decide ((↑m.Chans.length:Int) > 32)) (LQ (VV.tup [Aa 2,Aa (-1)]) (VV.tup [Aa r,Aa e])) (Aq (fc A8 CS Tryz.f55 [] (VV.tup [Aa r,Aa e])) [1,1,1,1,1,0,1,0] (NI m (0:Int)))))):=by kernel_rfl
theorem Wj (r e f:Int)(m:D.Model):(fc A8 GL Tryz.f27 [] (.tup [Aa r,Aa e,Aa f])).goal (St.init [] [.agg (Af m)]) =
  (∃ (y:Int × Int),VC 55 [VV.agg (Af m)] (VV.tup [Aa y.fst,Aa y.snd])/\BB (decide (y.fst > 0)) (LQ (VV.tup [Aa 40,Aa y.fst,Aa y.snd]) (VV.tup [Aa r,Aa e,Aa f])) (Aq (fc A8 GL Tryz.f27 [] (VV.tup [Aa r,Aa e,Aa f])) [1,1,1,1,0,1,0] (Jx m (0:Int) (0:Int)))):=by kernel_rfl
theorem V6 (b:Bool)(m:D.Model):(fc A8 A5 Tryz.f12 [] (Ac b)).goal (St.init [] [.agg (Af m)]) =
  (∃ (y:Int × Int × Int),VC 27 [VV.agg (Af m)] (VV.tup [Aa y.fst,Aa y.snd.fst,Aa y.snd.snd])/\LQ (Ac (y.fst==0)) (Ac b)):=by kernel_rfl
theorem Tw (b:Bool)(t:List D.Type)(l:List Int):(fc A8 Ji Tryz.f37 [] (Ac b)).goal (St.init [] [Az true t,Ad true l]) =
  (BB ((↑t.length:Int) != (↑l.length:Int)) (LQ (Ac false) (Ac b)) (Aq (fc A8 Ji Tryz.f37 [] (Ac b)) [1,1,0,1,0] (F5 t l (0:Int)))):=by kernel_rfl
theorem Adt (b:Bool)(m:D.Model)(s:D.State):(fc A8 GK Tryz.f15 [] (Ac b)).goal (St.init [] [.agg (Af m),.agg (Ae s)]) =
  (∃ (y:Bool),VC 37 [Az true m.Globals,Ad true s.Globals] (Ac y)/\BB (bif bif bif bif bif bif bif !y then true else decide ((↑s.Chans.length:Int) > 32) then true else decide ((↑s.Procs.length:Int) > 16) then true else decide (s.Last<0) then true else decide (s.Last > 15) then true else decide (s.Alone<(-1:Int)) then true else decide (s.Alone>=(↑s.Procs.length:Int)) then true else bif decide (m.Claim<0) then s.Claim != (-1:Int) else false) (LQ (Ac false) (Ac b)) (((true&&decide (m.Claim>=0)==true&&decide (s.Claim<0)==false)=true->inX m.Claim m.Procs.length)/\BB (bif decide (m.Claim>=0) then bif decide (s.Claim<0) then true else decide (s.Claim>=(↑(m.Procs.getD m.Claim.toNat default).Locs.length:Int)) else false) (LQ (Ac false) (Ac b)) (Aq (fc A8 GK Tryz.f15 [] (Ac b)) [1,1,1,1,0,1,0] (Li m s (0:Int))))):=by kernel_rfl
theorem TH (r:Int)(m:D.Model)(s:D.State):(fc A8 A5 Tryz.f6 [] (Aa r)).goal (St.init [] [.agg (Af m),.agg (Ae s)]) =
  (∃ (y:Bool),VC 12 [VV.agg (Af m)] (Ac y)/\BB (!y) (LQ (Aa 40) (Aa r)) (∃ (y:Bool),VC 15 [VV.agg (Af m),VV.agg (Ae s)] (Ac y)/\BB (!y) (LQ (Aa 41) (Aa r)) (LQ (Aa 0) (Aa r)))):=by kernel_rfl
theorem Aam (r:List D.Trans)(e:D.Env)(esc:Int):(fc A8 A5 Tryz.f43 [] (As true r)).goal (St.init [] [.agg (Ah e),Aa esc]) =
  (∃ (y:D.Proc),VC 38 [VV.agg (Ah e)] (VV.agg (AO y))/\inX e.Pid e.S.Procs.length/\inX (e.S.Procs.getD e.Pid.toNat default).Loc y.Locs.length/\BB (decide (esc<0)) (LQ (As true (y.Locs.getD (e.S.Procs.getD e.Pid.toNat default).Loc.toNat default).Out) (As true r)) (inX esc (y.Locs.getD (e.S.Procs.getD e.Pid.toNat default).Loc.toNat default).Esc.length/\LQ (As true ((y.Locs.getD (e.S.Procs.getD e.Pid.toNat default).Loc.toNat default).Esc.getD esc.toNat [])) (As true r))):=by kernel_rfl
theorem VX (p:D.Proc)(e:D.Env):(fc A8 A5 Tryz.f38 [] (.agg (AO p))).goal (St.init [] [.agg (Ah e)]) =
  (inX e.Pid e.S.Procs.length/\inX (e.S.Procs.getD e.Pid.toNat default).Type_ e.M.Procs.length/\LQ (VV.agg (AO (e.M.Procs.getD (e.S.Procs.getD e.Pid.toNat default).Type_.toNat default))) (VV.agg (AO p))):=by kernel_rfl
theorem Wb (b:Bool)(t:D.Type)(v most n i:Int)(J:St->Prop):((fc A8 HC Tryz.f66 [] (Ac b)).loop [1,1,1,1,1,1,0,1,0] J).goal (Jv t v most n i) =
  (BB (decide (i<n)) (J (Jv t v (IntKind.i64.wrap ((2:Int)*most)) n (IntKind.i64.wrap (i+(1:Int))))) (BB t.Signed (LQ (Ac (bif decide (v>=IntKind.i64.wrap ((0:Int) - most)) then decide (v<most) else false)) (Ac b)) (LQ (Ac (bif decide (v>=0) then decide (v<most) else false)) (Ac b)))):=by kernel_rfl
theorem TI (r:Int)(v:D.Var)(n k:Int)(J:St->Prop):((fc A8 KL Tryz.f136 [] (Aa r)).loop [1,1,1,0,1,0] J).goal (Lg v n k) =
  (BB (decide (k<(↑v.Dims.length:Int))) (inX k v.Dims.length/\BB (bif bif bif decide ((v.Dims.getD k.toNat default).Len<1) then true else decide (IntKind.i64.wrap ((v.Dims.getD k.toNat default).Len - (1:Int)) > 1073741824) then true else decide ((v.Dims.getD k.toNat default).Stride<0) then true else decide ((v.Dims.getD k.toNat default).Stride > 1073741824)) (LQ (Aa 0) (Aa r)) (J (Lg v (IntKind.i64.wrap (n+IntKind.i64.wrap (IntKind.i64.wrap ((v.Dims.getD k.toNat default).Len - (1:Int))*(v.Dims.getD k.toNat default).Stride))) (IntKind.i64.wrap (k+(1:Int)))))) (LQ (Aa n) (Aa r))):=by kernel_rfl
theorem Tx (r:Int)(t:List D.Type)(v:List Int)(k:Int)(J:St->Prop):((fc A8 KJ Tryz.f91 [] (Aa r)).loop [1,0,1,0] J).goal (Tb t v k) =
  (BB (decide (k<(↑t.length:Int))) (inX k t.length/\inX k v.length/\∃ (y:Bool),VC 66 [VV.agg (Bs (t.getD k.toNat default)),Aa (v.getD k.toNat 0)] (Ac y)/\BB (!y) (LQ (Aa k) (Aa r)) (J (F5 t v (IntKind.i64.wrap (k+(1:Int)))))) (LQ (Aa (-1)) (Aa r))):=by kernel_rfl
theorem TG (b:Bool)(s:D.Shape)(k:Int)(J:St->Prop):((fc A8 KK Tryz.f92 [] (Ac b)).loop [1,1,0,1,0] J).goal (Lf s k) =
  (BB (decide (k<(↑s.Fields.length:Int))) (inX k s.Fields.length/\∃ (y:Bool),VC 105 [VV.agg (Bs (s.Fields.getD k.toNat default))] (Ac y)/\BB (!y) (LQ (Ac false) (Ac b)) (J (Lf s (IntKind.i64.wrap (k+(1:Int)))))) (LQ (Ac true) (Ac b))):=by kernel_rfl
theorem TO (b:Bool)(a:Int)(l:List Int)(k:Int)(J:St->Prop):((fc A8 KM Tryz.f131 [] (Ac b)).loop [1,0,1,0] J).goal (Lj false a l k) =
  (BB (decide (k<(↑l.length:Int))) (inX k l.length/\((true&&decide (l.getD k.toNat 0<0)==false)=true->inX k l.length)/\BB (bif decide (l.getD k.toNat 0<0) then true else decide (l.getD k.toNat 0>=a)) (LQ (Ac false) (Ac b)) (J (Lj false a l (IntKind.i64.wrap (k+(1:Int)))))) (LQ (Ac true) (Ac b))):=by kernel_rfl
theorem OD (r:List Int)(x:D.Expr)(l:List Int)(n:Int):((fc A8 Bk Tryz.f94 [] (Ad true r)).cut [1,1,1,1]).goal (FE x l n) =
  (BB (decide (n>=2)) ((l.length+1)*8<=140737488355328/\Aq ((fc A8 Bk Tryz.f94 [] (Ad true r)).cut [1,1,1,1]) [1] (Av [(1,VV.bp 0 0),(3,VV.ow 1 0 (l.length+1)),(4,Aa n)] [Ob.box (AE x),Ob.arr true 0 (l.length+1) 1 fun(i:Nat)=>bif i.blt l.length then[Aa (l.getD i 0)] else(fun(i:Nat)=>List.take 1 (List.drop (i*1) [Aa x.B])) (i - l.length)])) (Aq ((fc A8 Bk Tryz.f94 [] (Ad true r)).cut [1,1,1,1]) [1] (FE x l n))):=by kernel_rfl
theorem Kl (r:List Int)(x:D.Expr)(l:List Int)(n:Int):((fc A8 Bk Tryz.f94 [] (Ad true r)).cut [1,1,1,1,1]).goal (FE x l n) =
  (BB (decide (n>=3)) ((l.length+1)*8<=140737488355328/\Aq ((fc A8 Bk Tryz.f94 [] (Ad true r)).cut [1,1,1,1,1]) [1] (Av [(1,VV.bp 0 0),(3,VV.ow 1 0 (l.length+1))] [Ob.box (AE x),Ob.arr true 0 (l.length+1) 1 fun(i:Nat)=>bif i.blt l.length then[Aa (l.getD i 0)] else(fun(i:Nat)=>List.take 1 (List.drop (i*1) [Aa x.C])) (i - l.length)])) (Aq ((fc A8 Bk Tryz.f94 [] (Ad true r)).cut [1,1,1,1,1]) [1] (Hh x l))):=by kernel_rfl
theorem V9 (r:List Int)(x:D.Expr)(l:List Int):((fc A8 Bk Tryz.f94 [] (Ad true r)).cut [1,1,1,1,1,1]).goal (Hh x l) =
  (BB (bif x.Op==30 then true else x.Op==39) ((l.length+x.Args.length)*8<=140737488355328/\(∀ (i:Nat),i<x.Args.length->(AJ x.Args i).all VV.mem1=true)/\Aq ((fc A8 Bk Tryz.f94 [] (Ad true r)).cut [1,1,1,1,1,1]) [1] (Av [(1,VV.bp 0 0),(3,VV.ow 1 0 (l.length+x.Args.length))] [Ob.box (AE x),Ob.arr true 0 (l.length+x.Args.length) 1 fun(i:Nat)=>bif i.blt l.length then AJ l i else AJ x.Args (i - l.length)])) (Aq ((fc A8 Bk Tryz.f94 [] (Ad true r)).cut [1,1,1,1,1,1]) [1] (Hh x l))):=by kernel_rfl
theorem V8 (r:List Int)(x:D.Expr)(l:List Int):((fc A8 Bk Tryz.f94 [] (Ad true r)).cut [1,1,1,1,1,1,1]).goal (Hh x l) =
  (BB (x.Op==2) (BB (x.V.Scope==2) ((l.length+1)*8<=140737488355328/\Aq ((fc A8 Bk Tryz.f94 [] (Ad true r)).cut [1,1,1,1,1,1,1]) [0,1,0,1,1,0] (Av [(1,VV.bp 0 0),(3,VV.ow 1 0 (l.length+1)),(5,Aa 0)] [Ob.box (AE x),Ob.arr true 0 (l.length+1) 1 fun(i:Nat)=>bif i.blt l.length then[Aa (l.getD i 0)] else(fun(i:Nat)=>List.take 1 (List.drop (i*1) [Aa x.V.Who])) (i - l.length)])) (Aq ((fc A8 Bk Tryz.f94 [] (Ad true r)).cut [1,1,1,1,1,1,1]) [0,1,0,1,1,0] (NK x l (0:Int)))) (LQ (Ad true l) (Ad true r))):=by kernel_rfl
theorem Wa (r:List Int)(x:D.Expr)(l:List Int)(k:Int)(J:St->Prop):((fc A8 Bk Tryz.f94 [] (Ad true r)).loop [1,1,1,1,1,1,1,0,1,0,1,1,0] J).goal (NK x l k) =
  (BB (decide (k<(↑x.V.Dims.length:Int))) (inX k x.V.Dims.length/\(l.length+1)*8<=140737488355328/\J (Av [(1,VV.bp 0 0),(3,VV.ow 1 0 (l.length+1)),(5,Aa (IntKind.i64.wrap (k+(1:Int))))] [Ob.box (AE x),Ob.arr true 0 (l.length+1) 1 fun(i:Nat)=>bif i.blt l.length then[Aa (l.getD i 0)] else(fun(i:Nat)=>List.take 1 (List.drop (i*1) [Aa (x.V.Dims.getD k.toNat default).I])) (i - l.length)])) (LQ (Ad true l) (Ad true r))):=by kernel_rfl
theorem VT (b:Bool)(_:D.Model)(a:Int)(v:D.Var)(k:Int)(J:St->Prop):((fc A8 MH Tryz.f133 [] (Ac b)).loop [1,1,1,1,1,0,1,0] J).goal (NF a v k) =
  (BB (decide (k<(↑v.Dims.length:Int))) (inX k v.Dims.length/\∃ (y:Bool),VC 131 [Aa a,VV.sl false 1 1 fun(i:Nat)=>List.take 1 (List.drop (i*1) [Aa (v.Dims.getD k.toNat default).I])] (Ac y)/\BB (bif bif bif bif !y then true else decide ((v.Dims.getD k.toNat default).Len<1) then true else decide ((v.Dims.getD k.toNat default).Len > 128) then true else decide ((v.Dims.getD k.toNat default).Stride<0) then true else decide ((v.Dims.getD k.toNat default).Stride > 128)) (LQ (Ac false) (Ac b)) (J (NF a v (IntKind.i64.wrap (k+(1:Int)))))) (LQ (Ac true) (Ac b))):=by kernel_rfl
theorem PU (b:Bool)(m:D.Model)(args mt:List Int)(k:Int)(J:St->Prop):((fc A8 Iu Tryz.f134 [] (Ac b)).loop [1,1,1,0,1,0] J).goal (HT m args mt k) =
  (BB (decide (k<(↑mt.length:Int))) (inX k mt.length/\((true&&decide (mt.getD k.toNat 0<(-1:Int))==false)=true->inX k mt.length)/\((true&&(bif decide (mt.getD k.toNat 0<(-1:Int)) then true else decide (mt.getD k.toNat 0 > 1))==false)=true->inX k mt.length)/\((true&&(bif decide (mt.getD k.toNat 0<(-1:Int)) then true else decide (mt.getD k.toNat 0 > 1))==false&&(mt.getD k.toNat 0==0)==true)=true->inX k args.length)/\((true&&(bif decide (mt.getD k.toNat 0<(-1:Int)) then true else decide (mt.getD k.toNat 0 > 1))==false&&(mt.getD k.toNat 0==0)==true)=true->inX (args.getD k.toNat 0) m.Exprs.length)/\BB (bif bif decide (mt.getD k.toNat 0<(-1:Int)) then true else decide (mt.getD k.toNat 0 > 1) then true else bif mt.getD k.toNat 0==0 then(m.Exprs.getD (args.getD k.toNat 0).toNat default).Op != 2 else false) (LQ (Ac false) (Ac b)) (J (HT m args mt (IntKind.i64.wrap (k+(1:Int)))))) (LQ (Ac true) (Ac b))):=by kernel_rfl
theorem We (b:Bool)(m:D.Model)(a:Int)(x:D.Expr)(n k:Int)(J:St->Prop):((fc A8 JU Tryz.f93 [] (Ac b)).loop [1,1,1,1,1,0,1,0] J).goal (NL m a x n k) =
  (BB (decide (k<3)) (inX k 3/\∃ (y:Bool),VC 131 [Aa a,VV.sl false 1 1 fun(i:Nat)=>List.take 1 (List.drop (i*1) [Aa ([x.A,x.B,x.C].getD k.toNat 0)])] (Ac y)/\((true&&(bif decide (k<n) then !y else false)==false&&decide (k>=n)==true)=true->inX k 3)/\BB (bif bif decide (k<n) then !y else false then true else bif decide (k>=n) then[x.A,x.B,x.C].getD k.toNat 0 != (-1:Int) else false) (LQ (Ac false) (Ac b)) (J (NL m a x n (IntKind.i64.wrap (k+(1:Int)))))) (∃ (y:Bool),VC 132 [VV.agg (Af m),Aa x.N] (Ac y)/\∃ (y_1:Bool),VC 131 [Aa a,Ad true x.Args] (Ac y_1)/\BB (x.Op==1) (LQ (Ac (bif decide (x.N>=(-2147483648:Int)) then decide (x.N<=2147483647) else false)) (Ac b)) (BB (x.Op==2) (∃ (y:Bool),VC 133 [VV.agg (Af m),Aa a,VV.agg (BN x.V)] (Ac y)/\LQ (Ac y) (Ac b)) (BB (x.Op==30) (∃ (y:Bool),VC 134 [VV.agg (Af m),Aa a,Ad true x.Args,Ad true x.Match] (Ac y)/\LQ (Ac (bif y then bif x.N==0 then true else x.N==1 else false)) (Ac b)) (BB (x.Op==38) (BB (bif !y then true else decide ((↑x.Args.length:Int)<1)) (LQ (Ac false) (Ac b)) (inX x.N m.Procs.length/\∃ (y:Bool),VC 131 [Aa (↑(m.Procs.getD x.N.toNat default).Locs.length:Int),Ad true x.Args] (Ac y)/\LQ (Ac y) (Ac b))) (BB (x.Op==39) (((true&&(bif y then y_1 else false)==true)=true->inX x.N m.Procs.length)/\LQ (Ac (bif bif y then y_1 else false then(↑x.Args.length:Int)==(m.Procs.getD x.N.toNat default).Params else false)) (Ac b)) (LQ (Ac true) (Ac b)))))))):=by kernel_rfl
theorem TD (b:Bool)(m:D.Model)(a:Int)(p:D.Proc)(many k:Int)(J:St->Prop):((fc A8 ED Tryz.f56 [] (Ac b)).loop [1,1,1,1,1,1,1,0,1,0] J).goal (F6 m a p many k) =
  (BB (decide (k<(↑p.Locs.length:Int))) (inX k p.Locs.length/\BB (bif bif bif decide ((↑(p.Locs.getD k.toNat default).Esc.length:Int) > 8) then true else bif (p.Locs.getD k.toNat default).Dstep then(p.Locs.getD k.toNat default).Atomic else false then true else bif k==p.Final then bif decide ((↑(p.Locs.getD k.toNat default).Out.length:Int) > 0) then true else decide ((↑(p.Locs.getD k.toNat default).Esc.length:Int) > 0) else false then true else bif a==m.Claim then bif bif decide ((↑(p.Locs.getD k.toNat default).Esc.length:Int) > 0) then true else(p.Locs.getD k.toNat default).Atomic then true else(p.Locs.getD k.toNat default).Dstep else false) (LQ (Ac false) (Ac b)) (∃ (y:List (List D.Trans)),VC 95 [VV.agg (Bf (p.Locs.getD k.toNat default))] (AW true y)/\Aq ((fc A8 ED Tryz.f56 [] (Ac b)).loop [1,1,1,1,1,1,1,0,1,0] J) [1,0,0,1,1,1,1,0] (Hf m a p many k y (0:Int)))) (LQ (Ac (decide (many<=1024))) (Ac b))):=by kernel_rfl
theorem TC (b:Bool)(m:D.Model)(a:Int)(p:D.Proc)(many k:Int)(ws:List (List D.Trans))(j:Int)(J J2:St->Prop):(((fc A8 ED Tryz.f56 [] (Ac b)).loop [1,1,1,1,1,1,1,0,1,0] J).loop [1,0,0,1,1,1,1,0] J2).goal (Hf m a p many k ws j) =
  (BB (decide (j<(↑ws.length:Int))) (((true&&decide (j > 0)==true)=true->inX j ws.length)/\BB (bif decide (j > 0) then(↑(ws.getD j.toNat []).length:Int)==0 else false) (LQ (Ac false) (Ac b)) (inX j ws.length/\Aq (((fc A8 ED Tryz.f56 [] (Ac b)).loop [1,1,1,1,1,1,1,0,1,0] J).loop [1,0,0,1,1,1,1,0] J2) [1,0,0,1,1,1,0] (Ju m a p (IntKind.i64.wrap (many+(↑(ws.getD j.toNat []).length:Int))) k ws j (0:Int)))) (J (F6 m a p many (IntKind.i64.wrap (k+(1:Int)))))):=by kernel_rfl
theorem TB (b:Bool)(m:D.Model)(a:Int)(p:D.Proc)(many k:Int)(ws:List (List D.Trans))(j h:Int)(J J2 J3:St->Prop):((((fc A8 ED Tryz.f56 [] (Ac b)).loop [1,1,1,1,1,1,1,0,1,0] J).loop [1,0,0,1,1,1,1,0] J2).loop [1,0,0,1,1,1,0] J3).goal (Ju m a p many k ws j h) =
  (inX j ws.length/\BB (decide (h<(↑(ws.getD j.toNat []).length:Int))) (inX j ws.length/\inX h (ws.getD j.toNat []).length/\((true&&decide (((ws.getD j.toNat []).getD h.toNat default).To<0)==false)=true->inX j ws.length)/\((true&&decide (((ws.getD j.toNat []).getD h.toNat default).To<0)==false)=true->inX h (ws.getD j.toNat []).length)/\BB (bif decide (((ws.getD j.toNat []).getD h.toNat default).To<0) then true else decide (((ws.getD j.toNat []).getD h.toNat default).To>=(↑p.Locs.length:Int))) (LQ (Ac false) (Ac b)) (J3 (Ju m a p many k ws j (IntKind.i64.wrap (h+(1:Int)))))) (J2 (Hf m a p many k ws (IntKind.i64.wrap (j+(1:Int)))))):=by kernel_rfl
theorem V0 (b:Bool)(m:D.Model)(s:D.Stmt)(k:Int)(J:St->Prop):((fc A8 JT Tryz.f135 [] (Ac b)).loop [1,1,1,1,1,1,1,0,1,0,1,1,1,1,1,1,1,1,1,0,1,1,0,1,0] J).goal (Ld m s k) =
  (BB (decide (k<(↑s.Args.length:Int))) (inX k s.Args.length/\∃ (y:Bool),VC 158 [VV.agg (Af m),Aa (s.Args.getD k.toNat 0)] (Ac y)/\inX k s.Match.length/\BB (bif s.Match.getD k.toNat 0==0 then !y else false) (LQ (Ac false) (Ac b)) (J (Ld m s (IntKind.i64.wrap (k+(1:Int)))))) (LQ (Ac true) (Ac b))):=by kernel_rfl
theorem VU (b:Bool)(m:D.Model)(a:Int)(l:List Int)(k:Int)(J:St->Prop):((fc A8 MI Tryz.f97 [] (Ac b)).loop [1,1,1,1,1,0,1,0] J).goal (NG m a l k) =
  (BB (decide (k<(↑l.length:Int))) (inX k l.length/\∃ (y:Bool),VC 97 [VV.agg (Af m),Aa a,Aa (l.getD k.toNat 0),Ac false] (Ac y)/\BB (!y) (LQ (Ac false) (Ac b)) (J (NG m a l (IntKind.i64.wrap (k+(1:Int)))))) (LQ (Ac true) (Ac b))):=by kernel_rfl
theorem Z8 (b:Bool)(m:D.Model)(a:Int)(s:D.Stmt)(k:Int)(J:St->Prop):((fc A8 GJ Tryz.f96 [] (Ac b)).loop [1,1,1,1,1,0,1,0] J).goal (IT m a s k) =
  (BB (decide (k<(↑s.Args.length:Int))) (inX k s.Args.length/\∃ (y:Bool),VC 97 [VV.agg (Af m),Aa a,Aa (s.Args.getD k.toNat 0),Ac false] (Ac y)/\BB (!y) (LQ (Ac false) (Ac b)) (J (IT m a s (IntKind.i64.wrap (k+(1:Int)))))) (LQ (Ac true) (Ac b))):=by kernel_rfl
theorem VR (b:Bool)(m:D.Model)(a:Int)(p:D.Proc)(k:Int)(J:St->Prop):((fc A8 DL Tryz.f57 [] (Ac b)).loop [1,1,0,1,0] J).goal (He m a p k) =
  (BB (decide (k<(↑p.Locs.length:Int))) (inX k p.Locs.length/\∃ (y:List (List D.Trans)),VC 95 [VV.agg (Bf (p.Locs.getD k.toNat default))] (AW true y)/\Aq ((fc A8 DL Tryz.f57 [] (Ac b)).loop [1,1,0,1,0] J) [1,0,0,1,1,0] (IS m a p k y (0:Int))) (BB (decide (p.Provided<0)) (LQ (Ac true) (Ac b)) (∃ (y:Bool),VC 97 [VV.agg (Af m),Aa a,Aa p.Provided,Ac false] (Ac y)/\LQ (Ac y) (Ac b)))):=by kernel_rfl
theorem VQ (b:Bool)(m:D.Model)(a:Int)(p:D.Proc)(k:Int)(ws:List (List D.Trans))(j:Int)(J J2:St->Prop):(((fc A8 DL Tryz.f57 [] (Ac b)).loop [1,1,0,1,0] J).loop [1,0,0,1,1,0] J2).goal (IS m a p k ws j) =
  (BB (decide (j<(↑ws.length:Int))) (Aq (((fc A8 DL Tryz.f57 [] (Ac b)).loop [1,1,0,1,0] J).loop [1,0,0,1,1,0] J2) [1,0,0,1,0] (Lc m a p k ws j (0:Int))) (J (He m a p (IntKind.i64.wrap (k+(1:Int)))))):=by kernel_rfl
theorem VP (b:Bool)(m:D.Model)(a:Int)(p:D.Proc)(k:Int)(ws:List (List D.Trans))(j h:Int)(J J2 J3:St->Prop):((((fc A8 DL Tryz.f57 [] (Ac b)).loop [1,1,0,1,0] J).loop [1,0,0,1,1,0] J2).loop [1,0,0,1,0] J3).goal (Lc m a p k ws j h) =
  (inX j ws.length/\BB (decide (h<(↑(ws.getD j.toNat []).length:Int))) (inX j ws.length/\inX h (ws.getD j.toNat []).length/\∃ (y:Bool),VC 96 [VV.agg (Af m),Aa a,VV.agg (Ar ((ws.getD j.toNat []).getD h.toNat default).S)] (Ac y)/\BB (!y) (LQ (Ac false) (Ac b)) (J3 (Lc m a p k ws j (IntKind.i64.wrap (h+(1:Int)))))) (J2 (IS m a p k ws (IntKind.i64.wrap (j+(1:Int)))))):=by kernel_rfl
theorem Aae (r e:Int)(m:D.Model)(k:Int)(J:St->Prop):((fc A8 CS Tryz.f55 [] (.tup [Aa r,Aa e])).loop [1,1,1,1,1,0,1,0] J).goal (NI m k) =
  (BB (decide (k<(↑m.Shapes.length:Int))) (inX k m.Shapes.length/\∃ (y:Bool),VC 92 [VV.agg (BZ (m.Shapes.getD k.toNat default))] (Ac y)/\BB (!y) (LQ (VV.tup [Aa 2,Aa k]) (VV.tup [Aa r,Aa e])) (J (NI m (IntKind.i64.wrap (k+(1:Int)))))) (Aq (fc A8 CS Tryz.f55 [] (VV.tup [Aa r,Aa e])) [1,1,1,1,1,1,0,1,0] (NH m (0:Int)))):=by kernel_rfl
theorem Aad (r e:Int)(m:D.Model)(k:Int)(J:St->Prop):((fc A8 CS Tryz.f55 [] (.tup [Aa r,Aa e])).loop [1,1,1,1,1,1,0,1,0] J).goal (NH m k) =
  (BB (decide (k<(↑m.Chans.length:Int))) (inX k m.Chans.length/\((true&&decide (m.Chans.getD k.toNat 0<0)==false)=true->inX k m.Chans.length)/\BB (bif decide (m.Chans.getD k.toNat 0<0) then true else decide (m.Chans.getD k.toNat 0>=(↑m.Shapes.length:Int))) (LQ (VV.tup [Aa 2,Aa k]) (VV.tup [Aa r,Aa e])) (J (NH m (IntKind.i64.wrap (k+(1:Int)))))) (BB (bif bif bif bif decide ((↑m.Procs.length:Int)<1) then true else decide ((↑m.Procs.length:Int) > 16) then true else decide (m.Claim<(-1:Int)) then true else decide (m.Claim>=(↑m.Procs.length:Int)) then true else decide ((↑m.Exprs.length:Int) > 4096)) (LQ (VV.tup [Aa 3,Aa (-1)]) (VV.tup [Aa r,Aa e])) (((0:Int)<=(↑m.Exprs.length:Int)/\(↑m.Exprs.length:Int)<=(↑m.Exprs.length:Int)/\(↑m.Exprs.length:Int)*(↑1:Int)<=140737488355328)/\Aq (fc A8 CS Tryz.f55 [] (VV.tup [Aa r,Aa e])) [1,1,1,1,1,1,1,1,1,0,1,0] (Av [(1,VV.bp 0 0),(8,VV.ow 1 0 (↑m.Exprs.length:Int).toNat),(9,Aa 0)] [Ob.box (Af m),Ob.arr true 0 (↑m.Exprs.length:Int).toNat 1 fun(_:Nat)=>((fc A8 CS Tryz.f55 [] (VV.tup [Aa r,Aa e])).T 4).zero])))):=by kernel_rfl
theorem Aac (r e:Int)(m:D.Model)(had:List Bool)(k:Int)(J:St->Prop):((fc A8 CS Tryz.f55 [] (.tup [Aa r,Aa e])).loop [1,1,1,1,1,1,1,1,1,0,1,0] J).goal (RJ m had k) =
  (BB (decide (k<(↑m.Exprs.length:Int))) (∃ (y:Bool),VC 93 [VV.agg (Af m),Aa k] (Ac y)/\BB (!y) (LQ (VV.tup [Aa 3,Aa k]) (VV.tup [Aa r,Aa e])) (inX k m.Exprs.length/\∃ (y:List Int),VC 94 [VV.agg (AE (m.Exprs.getD k.toNat default))] (Ad true y)/\Aq ((fc A8 CS Tryz.f55 [] (VV.tup [Aa r,Aa e])).loop [1,1,1,1,1,1,1,1,1,0,1,0] J) [1,0,0,1,1,1,1,0] (RH m had k y (0:Int)))) (LQ (VV.tup [Aa 0,Aa 0]) (VV.tup [Aa r,Aa e]))):=by kernel_rfl
theorem Aab (r e:Int)(m:D.Model)(had:List Bool)(k:Int)(l:List Int)(j:Int)(J J2:St->Prop):(((fc A8 CS Tryz.f55 [] (.tup [Aa r,Aa e])).loop [1,1,1,1,1,1,1,1,1,0,1,0] J).loop [1,0,0,1,1,1,1,0] J2).goal (RH m had k l j) =
  (BB (decide (j<(↑l.length:Int))) (inX j l.length/\inX (l.getD j.toNat 0) had.length/\BB (had.getD (l.getD j.toNat 0).toNat false) (LQ (VV.tup [Aa 3,Aa k]) (VV.tup [Aa r,Aa e])) (inX j l.length/\inX (l.getD j.toNat 0) had.length/\J2 (Av [(1,VV.bp 0 0),(8,VV.ow 1 0 had.length),(9,Aa k),(11,Ad true l),(12,Aa (IntKind.i64.wrap (j+(1:Int))))] [Ob.box (Af m),Ob.arr true 0 had.length 1 fun(j_1:Nat)=>bif j_1.beq (l.getD j.toNat 0).toNat then[Ac true] else[Ac (had.getD j_1 false)]]))) (J (RJ m had (IntKind.i64.wrap (k+(1:Int)))))):=by kernel_rfl
theorem TN (r e f:Int)(m:D.Model)(many k:Int)(J:St->Prop):((fc A8 GL Tryz.f27 [] (.tup [Aa r,Aa e,Aa f])).loop [1,1,1,1,0,1,0] J).goal (Jx m many k) =
  (BB (decide (k<(↑m.Procs.length:Int))) (∃ (y:Bool),VC 56 [VV.agg (Af m),Aa k] (Ac y)/\BB (!y) (LQ (VV.tup [Aa 40,Aa 4,Aa k]) (VV.tup [Aa r,Aa e,Aa f])) (inX k m.Procs.length/\J (Jx m (IntKind.i64.wrap (many+(m.Procs.getD k.toNat default).Active)) (IntKind.i64.wrap (k+(1:Int)))))) (BB (decide (many > 16)) (LQ (VV.tup [Aa 40,Aa 5,Aa (-1)]) (VV.tup [Aa r,Aa e,Aa f])) (Aq (fc A8 GL Tryz.f27 [] (VV.tup [Aa r,Aa e,Aa f])) [1,1,1,1,1,1,0,1,0] (Jw m (0:Int))))):=by kernel_rfl
theorem TM (r e f:Int)(m:D.Model)(k:Int)(J:St->Prop):((fc A8 GL Tryz.f27 [] (.tup [Aa r,Aa e,Aa f])).loop [1,1,1,1,1,1,0,1,0] J).goal (Jw m k) =
  (BB (decide (k<(↑m.Procs.length:Int))) (∃ (y:Bool),VC 57 [VV.agg (Af m),Aa k] (Ac y)/\BB (!y) (LQ (VV.tup [Aa 40,Aa 6,Aa k]) (VV.tup [Aa r,Aa e,Aa f])) (J (Jw m (IntKind.i64.wrap (k+(1:Int)))))) (LQ (VV.tup [Aa 0,Aa 0,Aa 0]) (VV.tup [Aa r,Aa e,Aa f]))):=by kernel_rfl
theorem RP (b:Bool)(t:List D.Type)(l:List Int)(k:Int)(J:St->Prop):((fc A8 Ji Tryz.f37 [] (Ac b)).loop [1,1,0,1,0] J).goal (F5 t l k) =
  (BB (decide (k<(↑t.length:Int))) (inX k t.length/\inX k l.length/\∃ (y:Bool),VC 66 [VV.agg (Bs (t.getD k.toNat default)),Aa (l.getD k.toNat 0)] (Ac y)/\BB (!y) (LQ (Ac false) (Ac b)) (J (F5 t l (IntKind.i64.wrap (k+(1:Int)))))) (LQ (Ac true) (Ac b))):=by kernel_rfl
theorem Aal (b:Bool)(m:D.Model)(s:D.State)(k:Int)(J:St->Prop):((fc A8 GK Tryz.f15 [] (Ac b)).loop [1,1,1,1,0,1,0] J).goal (Li m s k) =
  (BB (decide (k<(↑s.Chans.length:Int))) (inX k s.Chans.length/\((true&&(bif decide ((s.Chans.getD k.toNat default).Shape<0) then true else decide ((s.Chans.getD k.toNat default).Shape>=(↑m.Shapes.length:Int)))==false)=true->inX (s.Chans.getD k.toNat default).Shape m.Shapes.length)/\BB (bif bif decide ((s.Chans.getD k.toNat default).Shape<0) then true else decide ((s.Chans.getD k.toNat default).Shape>=(↑m.Shapes.length:Int)) then true else decide ((↑(s.Chans.getD k.toNat default).Queue.length:Int) > (m.Shapes.getD (s.Chans.getD k.toNat default).Shape.toNat default).Room)) (LQ (Ac false) (Ac b)) (Aq ((fc A8 GK Tryz.f15 [] (Ac b)).loop [1,1,1,1,0,1,0] J) [1,0,0,1,1,1,0] (NJ m s k (s.Chans.getD k.toNat default) (0:Int)))) (Aq (fc A8 GK Tryz.f15 [] (Ac b)) [1,1,1,1,1,0,1,0] (Lh m s (0:Int)))):=by kernel_rfl
theorem Aak (b:Bool)(m:D.Model)(s:D.State)(k:Int)(c:D.Chan)(j:Int)(J J2:St->Prop):(((fc A8 GK Tryz.f15 [] (Ac b)).loop [1,1,1,1,0,1,0] J).loop [1,0,0,1,1,1,0] J2).goal (NJ m s k c j) =
  (BB (decide (j<(↑c.Queue.length:Int))) (inX c.Shape m.Shapes.length/\inX j c.Queue.length/\∃ (y:Bool),VC 37 [Az true (m.Shapes.getD c.Shape.toNat default).Fields,Ad true (c.Queue.getD j.toNat [])] (Ac y)/\BB (!y) (LQ (Ac false) (Ac b)) (J2 (NJ m s k c (IntKind.i64.wrap (j+(1:Int)))))) (J (Li m s (IntKind.i64.wrap (k+(1:Int)))))):=by kernel_rfl
theorem Aaj (b:Bool)(m:D.Model)(s:D.State)(k:Int)(J:St->Prop):((fc A8 GK Tryz.f15 [] (Ac b)).loop [1,1,1,1,1,0,1,0] J).goal (Lh m s k) =
  (BB (decide (k<(↑s.Procs.length:Int))) (inX k s.Procs.length/\BB (bif bif decide ((s.Procs.getD k.toNat default).Type_<0) then true else decide ((s.Procs.getD k.toNat default).Type_>=(↑m.Procs.length:Int)) then true else(s.Procs.getD k.toNat default).Type_==m.Claim) (LQ (Ac false) (Ac b)) (inX (s.Procs.getD k.toNat default).Type_ m.Procs.length/\∃ (y:Bool),VC 37 [Az true (m.Procs.getD (s.Procs.getD k.toNat default).Type_.toNat default).Frame,Ad true (s.Procs.getD k.toNat default).Frame] (Ac y)/\BB (bif bif bif !y then true else decide ((s.Procs.getD k.toNat default).Loc<0) then true else decide ((s.Procs.getD k.toNat default).Loc>=(↑(m.Procs.getD (s.Procs.getD k.toNat default).Type_.toNat default).Locs.length:Int)) then true else(s.Procs.getD k.toNat default).Prio != (m.Procs.getD (s.Procs.getD k.toNat default).Type_.toNat default).Prio) (LQ (Ac false) (Ac b)) (J (Lh m s (IntKind.i64.wrap (k+(1:Int))))))) (LQ (Ac true) (Ac b))):=by kernel_rfl
end Go.Proofs.YtlhajmkjfcbhnaaGreat
namespace Go.Proofs.YtlhajmkjfcbhnaaGreat
open Go.RowKit
theorem Me (t:D.Type):Al Tryz.prog 105 [] [.agg (Bs t)] [] (Ac (Eb t)):=by
 refine Ag Ai Aj Tryz.func105 (by kernel_rfl) rfl (Adr _ t) (Ap ?_)
 unfold Eb
 grind
theorem OE (t:D.Type)(v:Int):Al Tryz.prog 66 [] [.agg (Bs t),Aa v] [] (Ac (Cx t v)):=by
 refine Ag Ai Aj Tryz.func66 (by kernel_rfl) rfl (Aao _ t v) ⟨Eb t,Me t,fun h=>Ap ?_,fun h=>?_⟩
 ·have h':Eb t=false:=by simpa using h
  simp[Cx,h']
 have h':Eb t=true:=by simpa using h
 obtain⟨h1,h2,h3⟩:=AcH h'
 have key:∀ n:Nat,(n:Int)=(bif t.Signed then t.Bits - 1 else t.Bits)->Aq (Df Tryz.prog tb A8 HC true Tryz.f66 [] (Ac (Cx t v))) [1,1,1,1,1,1,0,1,0] (Jv t v 1 n 0):=by
  intro n hn
  have hn32:n<=32:=by grind
  refine AA Ai Aj (fun g st=>∃ k:Nat,k<=n/\g=n - k/\st=Jv t v (2 ^ k) n k) (by kernel_rfl) (by kernel_rfl) ⟨n,Up.of ⟨0,Nat.zero_le _,rfl,rfl⟩⟩ ?_
  rintro g st ⟨k,hk,rfl,rfl⟩
  have hp:=Xk (n:=k) (by omega)
  refine AY.raw (Wb _ t v (2 ^ k) n k _) ⟨fun hlt=>?_,fun hge=>?_⟩
  ·have hlt':k<n:=by have:=AG hlt;omega
   refine⟨n - (k+1),by omega,Up.of ⟨k+1,hlt',rfl,?_⟩⟩
   grind [Ak,AL,Int.pow_succ]
  ·obtain rfl:k=n:=by have:=AI hge;omega
   refine⟨fun hs=>Ap ?_,fun hs=>Ap ?_⟩
   ·rw[hs,cond_true]at hn
    rw[AL (by omega) (by omega)]
    simp only[Cx,h',hs,cond_true,Bool.true_and,ge_iff_le]
    grind
   ·rw[hs,cond_false]at hn
    simp only[Cx,h',hs,cond_false,Bool.true_and,ge_iff_le]
    grind
 refine⟨fun hs=>?_,fun hs=>?_⟩
 ·have hw:IntKind.i64.wrap (t.Bits - 1)=t.Bits - 1:=AL (by omega) (by omega)
  have:=key (t.Bits - 1).toNat (by rw[hs,cond_true];omega)
  rw[hw]
  rwa [show(((t.Bits - 1).toNat:Nat):Int)=t.Bits - 1 by omega]at this
 ·have:=key t.Bits.toNat (by rw[hs,cond_false];omega)
  rwa [show((t.Bits.toNat:Nat):Int)=t.Bits by omega]at this
theorem M6 {v:D.Var}(hv:Kc v):Al Tryz.prog 136 [] [.agg (BN v)] [] (Aa (CM v)):=by
 have hd:=hv.Dims
 refine Ag Ai Aj Tryz.func136 (by kernel_rfl) rfl (V4 _ v) ⟨fun h=>Ba ?_,fun h=>?_⟩
 ·unfold CM
  grind
 ·have hb:0<=v.Slot/\v.Slot<=1073741824/\v.Dims.length<=4:=by simp at h;omega
  have e:CM v=Dt (v.Slot+1) v.Dims:=by
   unfold CM
   grind
  rw[e,AL (by omega) (by omega)]
  refine AA Ai Aj (fun g st=>∃ (k:Nat) (n:Int),k<=v.Dims.length/\g=v.Dims.length - k/\0<=n/\n<=1073741825+k*1152921504606846976/\Dt n (v.Dims.drop k)=Dt (v.Slot+1) v.Dims/\st=Lg v n k) (by kernel_rfl) (by kernel_rfl)
   ⟨_,Up.of ⟨0,v.Slot+1,Nat.zero_le _,rfl,by omega,by omega,rfl,rfl⟩⟩ ?_
  rintro g st ⟨k,n,hk,rfl,hn0,hn1,hr,rfl⟩
  refine AY.raw (TI _ v n k _) ⟨fun hlt=>?_,fun hge=>Ba ?_⟩
  ·have hlt':k<v.Dims.length:=by have:=AG hlt;omega
   have hto:(k:Int).toNat=k:=by omega
   rw[hto]
   rw[Bb (d:=default) hlt']at hr
   have hw:=hd.2 _ (An (d:=default) hlt')
   generalize v.Dims.getD k default=d at hr hw ⊢
   have hwl:=Ahn hw.Len
   refine⟨⟨by omega,by omega⟩,fun hy=>Ba ?_,fun hy=>?_⟩
   ·rw[← hr]
    have:GF d=true:=by
     unfold GF
     grind [AL]
    show _=Dt n (d::_)
    unfold Dt;rw[this]<;>rfl
   ·have hl:1<=d.Len:=by grind
    have hwr:IntKind.i64.wrap (d.Len - 1)=d.Len - 1:=AL (by omega) (by omega)
    rw[hwr]at hy ⊢
    have hb2:d.Len - 1<=1073741824/\0<=d.Stride/\d.Stride<=1073741824:=by simp at hy;omega
    have hbad:GF d=false:=by unfold GF;simp;omega
    have hm1:0<=(d.Len - 1)*d.Stride:=Int.mul_nonneg (by omega) hb2.2.1
    have hm2:(d.Len - 1)*d.Stride<=1073741824*1073741824:=Int.mul_le_mul hb2.1 hb2.2.2 hb2.2.1 (by omega)
    rw[AL (n:=(d.Len - 1)*d.Stride) (by omega) (by omega),AL (n:=n+_) (by omega) (by omega),Ak (by omega)]
    refine⟨v.Dims.length - (k+1),by omega,Up.of ⟨k+1,n+(d.Len - 1)*d.Stride,by omega,rfl,by omega,by omega,?_,rfl⟩⟩
    rw[← hr]
    show _=Dt n (d::_)
    conv=>rhs;unfold Dt
    rw[hbad]<;>rfl
  ·have hge':v.Dims.length<=k:=by have:=AI hge;omega
   rw[List.drop_eq_nil_of_le hge']at hr
   rw[← hr]<;>rfl
theorem M4 {t:List D.Type}{init:List Int}(hl:t.length<=init.length)(hs:t.length<=1048576):Al Tryz.prog 91 [] [Az true t,Ad true init] [] (Aa (Ex t init)):=by
 refine Ag Ai Aj Tryz.func91 (by kernel_rfl) rfl (VW _ t init) ?_
 refine AH Ai Aj t.length (fun k=>Tb t init k) (fun k=>∀ i,i<k->Cx (t.getD i default) (init.getD i 0)=true) (by kernel_rfl) (by kernel_rfl) (fun i hi=>by omega) ?_
 intro k hk hI J next
 refine AY.raw (Tx _ t init k J) ⟨fun hlt=>?_,fun hge=>Ba ?_⟩
 ·have hlt':k<t.length:=by have:=AG hlt;omega
  refine⟨⟨by omega,by omega⟩,⟨by omega,by omega⟩,Cx (t.getD k default) (init.getD k 0),OE _ _,fun hy=>Ba ?_,fun hy=>next _ hlt' (B0 hI (by simpa using hy)) (Up.of ?_)⟩
  ·exact(DQ (f:=fun i=>Cx (t.getD i default) (init.getD i 0)) hI hlt' (by simpa using hy)).symm
  first | grind [Ak] | (rw[Ak (by omega)];rfl)
 ·have hge':t.length<=k:=by have:=AI hge;omega
  exact(Db (f:=fun i=>Cx (t.getD i default) (init.getD i 0)) fun i hi=>hI i (by omega)).symm
theorem TF {s:D.Shape}(hs:KZ s):Al Tryz.prog 92 [] [.agg (BZ s)] [] (Ac (CF s)):=by
 have hl:=hs.Fields.1
 refine Ag Ai Aj Tryz.func92 (by kernel_rfl) rfl (V2 _ s) ⟨fun h=>Ap ?_,fun h=>?_⟩
 ·symm;rw[Bool.eq_false_iff];intro hc;simp[CF]at hc h;omega
 ·have e:CF s=Cd s.Fields.length fun i=>Eb (s.Fields.getD i default):=by
   unfold CF
   grind
  rw[e]
  refine AH Ai Aj s.Fields.length (fun k=>Lf s k) (fun k=>∀ i,i<k->Eb (s.Fields.getD i default)=true) (by kernel_rfl) (by kernel_rfl) (fun i hi=>by omega) ?_
  intro k hk hI J next
  refine AY.raw (TG _ s k J) ⟨fun hlt=>?_,fun hge=>Ap ?_⟩
  ·have hlt':k<s.Fields.length:=by have:=AG hlt;omega
   refine⟨⟨by omega,by omega⟩,Eb (s.Fields.getD k default),Me _,fun hy=>Ap ?_,fun hy=>next _ hlt' (B0 hI (by simpa using hy)) (Up.of ?_)⟩
   ·grind [BE]
   grind [Ak]
  grind [AI,AK]
theorem Lx (m:D.Model)(n:Int):Al Tryz.prog 132 [] [.agg (Af m),Aa n] [] (Ac (Cu m n)):=by
 refine Ag Ai Aj Tryz.func132 (by kernel_rfl) rfl (TJ _ m n) (Ap ?_)
 rw[Bool.eq_iff_iff];simp[Cu]
theorem LA {a:Int}{l:List Int}(hl:l.length<=1099511627776):Al Tryz.prog 131 [] [Aa a,Ad false l] [] (Ac (Cc a l)):=by
 refine Ag Ai Aj Tryz.func131 (by kernel_rfl) rfl (Wk _ a l) ?_
 refine AH Ai Aj l.length (fun k=>Lj false a l k) (fun k=>∀ i,i<k->inP a (l.getD i 0)=true) (by kernel_rfl) (by kernel_rfl) (fun i hi=>by omega) ?_
 intro k hk hI J next
 refine AY.raw (TO _ a l k J) ⟨fun hlt=>?_,fun hge=>Ap ?_⟩
 ·have hlt':k<l.length:=by have:=AG hlt;omega
  have hto:(k:Int).toNat=k:=by omega
  rw[hto]
  refine⟨⟨by omega,by omega⟩,fun _=>⟨by omega,by omega⟩,fun hy=>Ap ?_,fun hy=>next _ hlt' (B0 hI ?_) (Up.of ?_)⟩
  ·exact(BE (f:=fun i=>inP a (l.getD i 0)) hlt' (by rw[Bool.eq_false_iff];intro hc;simp[inP]at hc hy;omega)).symm
  ·simp[inP]at hy ⊢;omega
  grind [Ak]
 ·have hge':l.length<=k:=by have:=AI hge;omega
  exact(AK.2 fun i hi=>hI i (by omega)).symm
theorem GW {a:Int}{l:List Int}(hl:l.length<=1099511627776):Al Tryz.prog 131 [] [Aa a,Ad true l] [] (Ac (Cc a l)) :=
 (LA hl).frz rfl fun j x y hx hy=>by
  match j,hx,hy with
  | 0,hx,hy=>grind [Option.some.inj,E3]
  | 1,hx,hy=>obtain rfl:=Option.some.inj hx;obtain rfl:=Option.some.inj hy;exact Se
  | j+2,hx,_=>simp at hx
theorem Km {a x:Int}:Al Tryz.prog 131 [] [Aa a,.sl false 1 1 fun i=>List.take 1 (List.drop (i*1) [.sc (.int .i64 x)])] [] (Ac (inP a x)):=by
 have h:=LA (a:=a) (l:=[x]) (by simp)
 have e:Cc a [x]=inP a x:=by simp[Cc,Cd,List.getD]
 rw[e]at h
 refine h.le trivial ⟨VV.le_refl _,VV.le_sl (.inl rfl) fun i hi=>AZ ?_,trivial⟩ trivial (VV.le_refl _)
 obtain rfl:i=0:=by omega
 rfl
theorem M7 (op:Int):Al Tryz.prog 130 [] [Aa op] [] (Aa (AP op)):=by
 refine Ag Ai Aj Tryz.func130 (by kernel_rfl) rfl (V5 _ op) ?_
 have k0:∀ {p:Prop},(op=1∨op=2∨op=31∨op=32∨op=33∨op=34∨op=35∨op=39)->leO [] []/\VV.le (.sc (.int .i64 0)) (.sc (.int .i64 (AP op:Nat))):=fun h=>Ba (by unfold AP;rw[if_pos h]<;>rfl)
 have kx:¬(op=1∨op=2∨op=31∨op=32∨op=33∨op=34∨op=35∨op=39)->((op==(24:Int))=true->leO [] []/\(VV.sc (.int .i64 3)).le (.sc (.int .i64 (AP op:Nat))))/\((op==(24:Int))=false ->
   ((bif decide (op>=(6:Int)) then decide (op<=(23:Int)) else false)=true->leO [] []/\(VV.sc (.int .i64 2)).le (.sc (.int .i64 (AP op:Nat))))/\((bif decide (op>=(6:Int)) then decide (op<=(23:Int)) else false)=false->leO [] []/\(VV.sc (.int .i64 1)).le (.sc (.int .i64 (AP op:Nat))))):=by
  intro hn
  refine⟨fun h=>Ba ?_,fun h=>⟨fun h2=>Ba ?_,fun h2=>Ba ?_⟩⟩
  ·unfold AP;grind
  ·unfold AP;grind
  ·unfold AP;grind
 refine⟨fun h1=>⟨fun _=>k0 (p:=True) (by simp at h1;omega),fun h=>bt h1 h⟩,fun h1=>⟨fun h2=>⟨fun _=>k0 (p:=True) (by simp at h2;omega),fun h=>bt h2 h⟩,fun h2=>⟨fun h3=>⟨fun _=>k0 (p:=True) (by simp at h3;omega),fun h=>bt h3 h⟩,fun h3=>⟨fun h4=>⟨fun _=>k0 (p:=True) (by simp at h4;omega),fun h=>bt h4 h⟩,fun h4=>⟨fun h5=>⟨fun _=>k0 (p:=True) (by simp at h5;omega),fun h=>bt h5 h⟩,fun h5 =>
  ⟨fun h6=>⟨fun _=>k0 (p:=True) (by simp at h6;omega),fun h=>bt h6 h⟩,fun h6=>⟨fun h7=>⟨fun _=>k0 (p:=True) (by simp at h7;omega),fun h=>bt h7 h⟩,fun h7=>⟨fun h8=>k0 (p:=True) (by simp at h8;omega),fun h8=>kx (by grind)⟩⟩⟩⟩⟩⟩⟩⟩
theorem VS {m:D.Model}{a:Int}{v:D.Var}(hv:Kc v):Al Tryz.prog 133 [] [.agg (Af m),Aa a,.agg (BN v)] [] (Ac (CT m a v)):=by
 have hl:=hv.Dims.1
 refine Ag Ai Aj Tryz.func133 (by kernel_rfl) rfl (Z9 _ m a v) ⟨fun h=>Ap ?_,fun h=>⟨inP a v.Who,Km,Cu m v.Type_,Lx _ _,fun hy=>Ap ?_,fun hy=>?_⟩⟩
 ·unfold CT
  grind
 ·unfold CT
  grind
 ·have e:CT m a v=Cd v.Dims.length fun i=>LX a (v.Dims.getD i default):=by
   unfold CT
   have e1:(decide (0<=v.Scope)&&decide (v.Scope<=2)&&decide (0<=v.Slot)&&decide (v.Slot<=128)&&decide (v.Dims.length<=4))=true:=by simp at h ⊢;omega
   grind
  rw[e]
  refine AH Ai Aj v.Dims.length (fun k=>NF a v k) (fun k=>∀ i,i<k->LX a (v.Dims.getD i default)=true) (by kernel_rfl) (by kernel_rfl) (fun i hi=>by omega) ?_
  intro k hk hI J next
  refine AY.raw (VT _ m a v k J) ⟨fun hlt=>?_,fun hge=>Ap ?_⟩
  ·have hlt':k<v.Dims.length:=by have:=AG hlt;omega
   have hto:(k:Int).toNat=k:=by omega
   rw[hto]
   have hdim:∀ d:D.Dim,LX a d=!(bif bif bif bif !(inP a d.I) then true else decide (d.Len<1) then true else decide (d.Len > 128) then true else decide (d.Stride<0) then true else decide (d.Stride > 128)):=by
    intro d
    unfold LX
    grind
   refine⟨⟨by omega,by omega⟩,inP a (v.Dims.getD k default).I,Km,fun hy=>Ap ?_,fun hy=>next _ hlt' (B0 hI ?_) (Up.of ?_)⟩
   ·grind [BE]
   ·rw[hdim,hy]<;>rfl
   grind [Ak]
  grind [AI,AK]
theorem J4 {m:D.Model}{a:Int}{args mt:List Int}(ha:a<=m.Exprs.length)(h1:args.length<=1048576)(_:mt.length<=1048576) :
  Al Tryz.prog 134 [] [.agg (Af m),Aa a,Ad true args,Ad true mt] [] (Ac (BX m a args mt)):=by
 refine Ag Ai Aj Tryz.func134 (by kernel_rfl) rfl (RT _ m a args mt) ⟨Cc a args,GW (by omega),fun h=>Ap ?_,fun h=>?_⟩
 ·unfold BX
  grind
 ·have hb:Cc a args=true:=by grind
  have hlen:1<=args.length/\args.length<=8/\mt.length=args.length:=by grind
  have e:BX m a args mt=Cd mt.length fun i=>H9 m (args.getD i 0) (mt.getD i 0):=by
   unfold BX
   rw[hb];simp[hlen]
  rw[e]
  have hin:=EC.1 hb
  refine AH Ai Aj mt.length (fun k=>HT m args mt k) (fun k=>∀ i,i<k->H9 m (args.getD i 0) (mt.getD i 0)=true) (by kernel_rfl) (by kernel_rfl) (fun i hi=>by omega) ?_
  intro k hk hI J next
  refine AY.raw (PU _ m args mt k J) ⟨fun hlt=>?_,fun hge=>Ap ?_⟩
  ·have hlt':k<mt.length:=by have:=AG hlt;omega
   have hto:(k:Int).toNat=k:=by omega
   rw[hto]
   have hx:=hin _ (An (d:=(0:Int)) (show k<args.length by omega))
   have hm:H9 m (args.getD k 0) (mt.getD k 0)=!(bif bif decide (mt.getD k 0 < -1) then true else decide (mt.getD k 0 > 1) then true else bif mt.getD k 0==0 then(m.Exprs.getD (args.getD k 0).toNat default).Op != 2 else false):=by
    unfold H9 Ao
    grind
   refine⟨⟨by omega,by omega⟩,fun _=>⟨by omega,by omega⟩,fun _=>⟨by omega,by omega⟩,fun _=>⟨by omega,by omega⟩,fun _=>⟨by omega,by omega⟩,fun hy=>Ap ?_,fun hy=>next _ hlt' (B0 hI ?_) (Up.of ?_)⟩
   ·grind [BE]
   ·rw[hm,hy]<;>rfl
   grind [Ak]
  grind [AI,AK]
theorem OC {x:D.Expr}(h1:x.Args.length<=1048576)(h2:x.V.Dims.length<=1048576):Al Tryz.prog 94 [] [.agg (AE x)] [] (Ad true (Bp x)):=by
 have hp3:=O0 x.Op
 have loop:∀ (L:List Int),L.length<=2097152->L++x.V.Dims.map D.Dim.I=Bp x->Aq (Df Tryz.prog tb A8 Bk true Tryz.f94 [] (Ad true (Bp x))) [1,1,1,1,1,1,1,0,1,0,1,1,0] (NK x L 0):=by
  intro L hL hR
  generalize Bp x=R at hR ⊢
  refine AH Ai Aj x.V.Dims.length (fun k=>NK x (L++(x.V.Dims.take k).map D.Dim.I) k) (fun _=>True) (by kernel_rfl) (by kernel_rfl) trivial ?_ |> fun h=>by simpa using h
  intro k hk _ J next
  have hlen:(L++(x.V.Dims.take k).map D.Dim.I).length=L.length+k:=by simp;omega
  refine AY.raw (Wa _ x _ k J) ⟨fun hlt=>?_,fun hge=>⟨trivial,?_⟩⟩
  ·have hlt':k<x.V.Dims.length:=by have:=AG hlt;omega
   have hto:(k:Int).toNat=k:=by omega
   rw[hto]
   refine⟨⟨by omega,by omega⟩,by rw[hlen];omega,next _ hlt' trivial ?_⟩
   have hpush:(x.V.Dims.take (k+1)).map D.Dim.I=(x.V.Dims.take k).map D.Dim.I++[(x.V.Dims.getD k default).I]:=by rw[CU (d:=default) hlt'];simp
   have e:L++(x.V.Dims.take (k+1)).map D.Dim.I=(L++(x.V.Dims.take k).map D.Dim.I)++[(x.V.Dims.getD k default).I]:=by rw[hpush,List.append_assoc]
   rw[e,Ak (by omega)]
   generalize L++(x.V.Dims.take k).map D.Dim.I=M
   generalize (x.V.Dims.getD k default).I=z
   refine Up.mk (l':=[(1,.bp 0 0),(3,.ow 1 0 (M++[z]).length),(5,Aa ((k+1:Nat):Int))]) (hs':=[.box (AE x),.arr true 0 (M++[z]).length 1 (AJ (M++[z]))]) ?_ ?_ rfl
   ·rw[show M.length+1=(M++[z]).length by simp];exact AU _
   ·rw[show M.length+1=(M++[z]).length by simp]
    exact⟨Ob.le_refl _,Ob.le_arr fun i hi=>AZ (Bz (f:=fun n=>[Aa n]) (d:=0) (l:=M) (r:=[z]) (F:=fun i=>[.sc (.int .i64 (M.getD i 0))]) (fun i hi=>rfl) EV hi),trivial⟩
  ·have hge':x.V.Dims.length<=k:=by have:=AI hge;omega
   rw[List.take_of_length_le hge',hR]
   exact VV.le_refl _
 have dD:∀ st,Aq ((Df Tryz.prog tb A8 Bk true Tryz.f94 [] (Ad true (Bp x))).cut [1,1,1,1,1,1,1]) [0,1,0,1,1,0] st=Aq (Df Tryz.prog tb A8 Bk true Tryz.f94 [] (Ad true (Bp x))) [1,1,1,1,1,1,1,0,1,0,1,1,0] st:=fun st=>by kernel_rfl
 have dC:∀ st,Aq ((Df Tryz.prog tb A8 Bk true Tryz.f94 [] (Ad true (Bp x))).cut [1,1,1,1,1,1]) [1] st=Aq (Df Tryz.prog tb A8 Bk true Tryz.f94 [] (Ad true (Bp x))) [1,1,1,1,1,1,1] st:=fun st=>by kernel_rfl
 have dB:∀ st,Aq ((Df Tryz.prog tb A8 Bk true Tryz.f94 [] (Ad true (Bp x))).cut [1,1,1,1,1]) [1] st=Aq (Df Tryz.prog tb A8 Bk true Tryz.f94 [] (Ad true (Bp x))) [1,1,1,1,1,1] st:=fun st=>by kernel_rfl
 have dA:∀ st,Aq ((Df Tryz.prog tb A8 Bk true Tryz.f94 [] (Ad true (Bp x))).cut [1,1,1,1]) [1] st=Aq (Df Tryz.prog tb A8 Bk true Tryz.f94 [] (Ad true (Bp x))) [1,1,1,1,1] st:=fun st=>by kernel_rfl
 have hheld:Bp x=[x.A,x.B,x.C].take (AP x.Op)++((if x.Op=30∨x.Op=39 then x.Args else[])++(if x.Op=2 then(if x.V.Scope=2 then[x.V.Who] else[])++x.V.Dims.map D.Dim.I else[])):=rfl
 generalize Bp x=R at hheld loop dA dB dC dD ⊢
 have push:∀ {c:Ctx} {rel:List Nat} (l:List (Nat × VV)) (M:List Int) (z:Int) (F:Nat->List VV),(∀ i,F i=[VV.sc (.int .i64 (M.getD i 0))])->Aq c rel (Av ((1,.bp 0 0)::(3,.ow 1 0 (M++[z]).length)::l) [.box (AE x),.arr true 0 (M++[z]).length 1 (AJ (M++[z]))]) ->
   Aq c rel (Av ((1,.bp 0 0)::(3,.ow 1 0 (M.length+1))::l) [.box (AE x),.arr true 0 (M.length+1) 1 (fun i=>bif i.blt M.length then F i else(fun i=>List.take 1 (List.drop (i*1) [.sc (.int .i64 z)])) (i - M.length))]):=by
  intro c rel l M z F hF h
  rw[show M.length+1=(M++[z]).length by simp]
  exact Aq.le (hs':=[.box (AE x),.arr true 0 (M++[z]).length 1 (AJ (M++[z]))]) (AU _) ⟨Ob.le_refl _,Ob.le_arr fun i hi=>AZ (Bz (f:=fun n=>[Aa n]) (d:=0) (l:=M) (r:=[z]) (F:=F) (fun i _=>hF i) EV hi),trivial⟩ h
 have hD:∀ (L:List Int),L.length<=2097151->L++(if x.Op=2 then(if x.V.Scope=2 then[x.V.Who] else[])++x.V.Dims.map D.Dim.I else[])=R->Aq (Df Tryz.prog tb A8 Bk true Tryz.f94 [] (Ad true R)) [1,1,1,1,1,1,1] (Hh x L):=by
  intro L hL hR
  refine Dq Ai Aj (by kernel_rfl) (V8 _ x L) ⟨fun k=>⟨fun q=>⟨by omega,?_⟩,fun q=>?_⟩,fun k=>⟨trivial,?_⟩⟩
  ·refine push _ L _ _ (fun _=>rfl) (Eq.mpr (dD _) (loop _ (by simp;omega) ?_))
   rw[if_pos (by simpa using k),if_pos (by simpa using q)]at hR
   rw[← hR,List.append_assoc]
  ·refine Eq.mpr (dD _) (loop _ (by omega) ?_)
   rw[if_pos (by simpa using k),if_neg (by simpa using q)]at hR
   exact hR
  ·rw[if_neg (by simpa using k),List.append_nil]at hR
   rw[hR];exact VV.le_refl _
 have hC:∀ (L:List Int),L.length<=3->L++((if x.Op=30∨x.Op=39 then x.Args else[])++(if x.Op=2 then(if x.V.Scope=2 then[x.V.Who] else[])++x.V.Dims.map D.Dim.I else[]))=R->Aq (Df Tryz.prog tb A8 Bk true Tryz.f94 [] (Ad true R)) [1,1,1,1,1,1] (Hh x L):=by
  intro L hL hR
  refine Dq Ai Aj (by kernel_rfl) (V9 _ x L) ⟨fun k=>⟨by omega,fun _ _=>rfl,?_⟩,fun k=>Eq.mpr (dC _) (hD L (by omega) ?_)⟩
  ·have e:L.length+x.Args.length=(L++x.Args).length:=by simp
   rw[e]
   refine Aq.le (hs':=[.box (AE x),.arr true 0 (L++x.Args).length 1 (AJ (L++x.Args))]) (AU _) ⟨Ob.le_refl _,Ob.le_arr fun i hi=>AZ (Sz (fun i _=>rfl) hi),trivial⟩ (Eq.mpr (dC _) (hD (L++x.Args) (by simp;omega) ?_))
   rw[if_pos (by simpa using k)]at hR
   rw[← hR,List.append_assoc]
  ·rw[if_neg (by simpa using k),List.nil_append]at hR
   exact hR
 refine Ag Ai Aj Tryz.func94 (by kernel_rfl) rfl (Aan _ x) ⟨(AP x.Op:Nat),M7 _,fun g1=>⟨by omega,?_⟩,fun g1=>?_⟩
 ·have c1:1<=AP x.Op:=by simp at g1;omega
  refine Aq.le (l':=[(1,.bp 0 0),(3,.ow 1 0 [x.A].length),(4,Aa (AP x.Op:Nat))]) (hs':=[.box (AE x),.arr true 0 [x.A].length 1 (AJ [x.A])]) (AU _) ⟨Ob.le_refl _,Ob.le_arr fun i hi=>AZ (EV i hi),trivial⟩ ?_
  change Aq _ _ (FE x [x.A] (AP x.Op:Nat))
  refine Dq Ai Aj (by kernel_rfl) (OD _ x [x.A] _) ⟨fun g2=>⟨by simp,push _ [x.A] _ _ (fun _=>rfl) (Eq.mpr (dA _) ?_)⟩,fun g2=>Eq.mpr (dA _) ?_⟩
  ·have c2:2<=AP x.Op:=by simp at g2;omega
   change Aq _ _ (FE x [x.A,x.B] (AP x.Op:Nat))
   refine Dq Ai Aj (by kernel_rfl) (Kl _ x [x.A,x.B] _) ⟨fun g3=>⟨by simp,push _ [x.A,x.B] _ _ (fun _=>rfl) (Eq.mpr (dB _) (hC [x.A,x.B,x.C] (by simp) ?_))⟩,fun g3=>Eq.mpr (dB _) (hC [x.A,x.B] (by simp) ?_)⟩
   ·have c3:AP x.Op=3:=by simp at g3;omega
    rw[hheld,c3]<;>rfl
   ·have c3:AP x.Op=2:=by simp at g3;omega
    rw[hheld,c3]<;>rfl
  ·have c2:AP x.Op=1:=by simp at g2;omega
   change Aq _ _ (FE x [x.A] (AP x.Op:Nat))
   refine Dq Ai Aj (by kernel_rfl) (Kl _ x [x.A] _) ⟨fun g3=>absurd g3 (by rw[c2];decide),fun g3=>Eq.mpr (dB _) (hC [x.A] (by simp) ?_)⟩
   rw[hheld,c2]<;>rfl
 ·have c1:AP x.Op=0:=by simp at g1;omega
  refine Aq.own 1 3 1 (AJ []) rfl ?_
  change Aq _ _ (FE x [] (AP x.Op:Nat))
  refine Dq Ai Aj (by kernel_rfl) (OD _ x [] _) ⟨fun g2=>absurd g2 (by rw[c1];decide),fun g2=>Eq.mpr (dA _) ?_⟩
  change Aq _ _ (FE x [] (AP x.Op:Nat))
  refine Dq Ai Aj (by kernel_rfl) (Kl _ x [] _) ⟨fun g3=>absurd g3 (by rw[c1];decide),fun g3=>Eq.mpr (dB _) (hC [] (by simp) ?_)⟩
  rw[hheld,c1]<;>rfl
theorem OA {l:D.Loc}(h1:l.Esc.length<=1048576):Al Tryz.prog 95 [] [.agg (Bf l)] [] (AW true (Bw l)):=by
 refine Ag Ai Aj Tryz.func95 (by kernel_rfl) rfl (Z6 _ l) ⟨by omega,by omega,fun i hi=>rfl,trivial,?_⟩
 have e:1+l.Esc.length=(Bw l).length:=by simp[Bw];omega
 rw[e]
 refine VV.le_sl (.inl rfl) fun i hi=>AZ ?_
 refine Bz (l:=[l.Out]) (r:=l.Esc) (f:=fun w=>[As true w]) (d:=[]) (F:=fun i=>List.take 1 (List.drop (i*1) [As true l.Out])) (G:=fun i=>[As true (l.Esc.getD i [])]) (fun i hi=>?_) (fun i hi=>rfl) hi
 grind
theorem Wd {m:D.Model}{a:Int}(h0:0<=a)(ha:a<m.Exprs.length)(hw:GS (Ao m a))(hP:m.Procs.length<=1048576):Al Tryz.prog 93 [] [.agg (Af m),Aa a] [] (Ac (CP m a)):=by
 refine Ag Ai Aj Tryz.func93 (by kernel_rfl) rfl (Aap _ m a) ⟨⟨h0,ha⟩,fun h=>Ap ?_,fun h=>?_⟩
 ·symm;rw[Bool.eq_false_iff];intro hc
  unfold CP at hc
  simp only[Bool.and_eq_true,decide_eq_true_eq]at hc
  have h':(bif decide ((Ao m a).Op<1) then true else decide ((Ao m a).Op > 39))=true:=h
  simp at h'
  omega
 ·have hop:1<=(Ao m a).Op/\(Ao m a).Op<=39:=by
   have h':(bif decide ((Ao m a).Op<1) then true else decide ((Ao m a).Op > 39))=false:=h
   simp at h';omega
  have hargs:=hw.Args.1
  have hmt:=hw.Match.1
  have hwv:=hw.V
  have hwn:=hw.N
  generalize hb:CP m a=b
  unfold CP at hb
  simp only at hb
  refine⟨(AP (Ao m a).Op:Nat),M7 _,?_⟩
  show Aq _ _ (Av [(1,Aa a),(2,.bp 0 0),(5,.bp 1 0),(6,Aa (AP (Ao m a).Op:Nat)),(7,.ow 2 0 3),(8,Aa 0)] [.box (Af m),.box (AE (Ao m a)),.arr true 0 3 1 (fun i=>List.take 1 (List.drop (i*1) [VV.sc (.int .i64 (Ao m a).A),.sc (.int .i64 (Ao m a).B),.sc (.int .i64 (Ao m a).C)]))])
  generalize Ao m a=x at hop hargs hmt hwv hwn hb ⊢
  have e:(decide (1<=x.Op)&&decide (x.Op<=39))=true:=by simp;omega
  rw[e,Bool.true_and]at hb
  have st0:Aq (Df Tryz.prog tb A8 JU true Tryz.f93 [] (Ac b)) [1,1,1,1,1,0,1,0] (NL m a x (AP x.Op:Nat) 0):=by
   refine AH Ai Aj 3 (fun k=>NL m a x (AP x.Op:Nat) k) (fun k=>∀ i,i<k->DY a x.Op i ([x.A,x.B,x.C].getD i 0)=true) (by kernel_rfl) (by kernel_rfl) (fun i hi=>by omega) ?_
   intro k hk hI J next
   refine AY.raw (We _ m a x _ k J) ⟨fun hlt=>?_,fun hge=>?_⟩
   ·have hlt':k<3:=by grind
    have hto:(k:Int).toNat=k:=by omega
    rw[hto]
    refine⟨⟨by omega,by omega⟩,inP a ([x.A,x.B,x.C].getD k 0),Km,fun _=>⟨by omega,by omega⟩,fun hy=>Ap ?_,fun hy=>next _ hlt' (B0 hI ?_) (Up.of ?_)⟩
    ·have hp:DY a x.Op k ([x.A,x.B,x.C].getD k 0)=false:=by rw[FI];exact congrArg (!·) hy
     grind
    ·rw[FI];exact congrArg (!·) hy
    grind [Ak]
   ·have hge':3<=k:=by simp at hge;omega
    have p0:DY a x.Op 0 x.A=true:=hI 0 (by omega)
    have p1:DY a x.Op 1 x.B=true:=hI 1 (by omega)
    have p2:DY a x.Op 2 x.C=true:=hI 2 (by omega)
    rw[p0,p1,p2]at hb
    simp only[Bool.and_self,Bool.true_and]at hb
    subst hb
    refine⟨Cu m x.N,Lx _ _,Cc a x.Args,GW (by omega),fun h1=>Ap ?_,fun h1=>⟨fun h2=>⟨_,VS hwv,Ap ?_⟩,fun h2=>⟨fun h3=>⟨_,J4 (by omega) hargs hmt,Ap ?_⟩,fun h3=>⟨fun h4=>⟨fun h5=>Ap ?_,fun h5=>⟨?_,Cc (EA m x.N).length x.Args,GW (by omega),Ap ?_⟩⟩,fun h4 =>
     ⟨fun h5=>⟨fun hy=>?_,Ap ?_⟩,fun h5=>Ap ?_⟩⟩⟩⟩⟩
    ·rw[if_pos (by simpa using h1)]
     rw[Bool.eq_iff_iff];simp[Cx,Eb];omega
    ·grind
    ·grind
    ·rw[if_neg (by simpa using h1),if_neg (by simpa using h2),if_neg (by simpa using h3),if_pos (by simpa using h4)]
     symm;rw[Bool.eq_false_iff];intro hc
     simp[JE]at hc h5;simp[hc]at h5;omega
    ·have:Cu m x.N=true:=by grind
     simp[Cu]at this;omega
    ·have hq:Cu m x.N=true:=by grind
     rw[if_neg (by simpa using h1),if_neg (by simpa using h2),if_neg (by simpa using h3),if_pos (by simpa using h4)]
     have hn:0<=x.N/\x.N<1073741824:=by simp[Cu]at hq;omega
     have hl:1<=x.Args.length:=by grind
     unfold JE
     rw[hq];simp[hn,hl]
    ·have:Cu m x.N=true:=by grind
     simp[Cu]at this;omega
    ·rw[if_neg (by simpa using h1),if_neg (by simpa using h2),if_neg (by simpa using h3),if_neg (by simpa using h4),if_pos (by simpa using h5)]
     cases hq:Cu m x.N
     ·rw[Bool.eq_iff_iff];simp
     ·have hn:0<=x.N/\x.N<1073741824:=by simp[Cu]at hq;omega
      grind
    grind
  exact Aq.le (hs':=[.box (Af m),.box (AE x),.arr true 0 3 1 (AJ [x.A,x.B,x.C])]) (AU _) ⟨Ob.le_refl _,Ob.le_refl _,Ob.le_arr fun i hi=>AZ (by rcases(show i=0∨i=1∨i=2 by omega) with rfl | rfl | rfl<;>rfl),trivial⟩ st0
theorem Lw (m:D.Model)(a:Int):Al Tryz.prog 158 [] [.agg (Af m),Aa a] [] (Ac (BF m a)):=by
 have hin:(bif decide (a>=0) then decide (a<(m.Exprs.length:Int)) else false)=true->0<=a/\a<m.Exprs.length:=fun h=>by simpa using h
 refine Ag Ai Aj Tryz.func158 (by kernel_rfl) rfl (Ty _ m a) ⟨fun h=>hin (by simpa using h),fun h=>hin ?_,Ap ?_⟩
 ·grind
 ·show _=BF m a
  unfold BF Ao CX inP
  grind
theorem VZ {m:D.Model}{s:D.Stmt}(hs:MT s):Al Tryz.prog 135 [] [.agg (Af m),.agg (Ar s)] [] (Ac (Au m s)):=by
 have ha:=hs.a
 have hb:=hs.m
 have hkn:∀ {k:Int},(s.Kind==k)=true->s.Kind=k:=fun h=>by simpa using h
 have hkf:∀ {k:Int},(s.Kind==k)=false->s.Kind≠k:=fun h=>by simpa using h
 have len0:((bif (s.Args.length:Int)==0 then(s.Match.length:Int)==0 else false))=decide (s.Args.length+s.Match.length=0):=by grind
 have pl:(bif decide (s.A>=0) then decide (s.A<(m.Exprs.length:Int)) else false)=CX m s.A:=by rw[BD]<;>rfl
 have plB:(bif decide (s.B>=0) then decide (s.B<(m.Exprs.length:Int)) else false)=CX m s.B:=by rw[BD]<;>rfl
 have em:Di s true true true=(decide (s.Args.length+s.Match.length=0)&&decide (s.N=0)&&decide (s.Text.size=0)):=by simp only[Di,Bool.not_true,Bool.false_or]
 have emn:Di s true false true=(decide (s.Args.length+s.Match.length=0)&&decide (s.Text.size=0)):=by simp only[Di,Bool.not_true,Bool.not_false,Bool.true_or,Bool.and_true,Bool.false_or]
 refine Ag Ai Aj Tryz.func135 (by kernel_rfl) rfl (Aaf _ m s) ⟨BF m s.A,Lw m s.A,Cc m.Exprs.length s.Args,GW (by omega),?_⟩
 have t13:s.Kind=1∨s.Kind=3->Au m s=(CX m s.A&&decide (s.B=-1)&&Di s true true true):=fun h=>by unfold Au;rw[if_pos h]
 have t2:s.Kind=2->Au m s=(BF m s.A&&CX m s.B&&Di s true true true):=fun h=>by unfold Au;grind
 have t4:s.Kind=4->Au m s=(decide (s.A=-1)&&decide (s.B=-1)&&Cc m.Exprs.length s.Args&&decide (s.Match.length=0)&&decide (s.Text.size<=256)&&decide (s.N=0)):=fun h=>by unfold Au;grind
 have t5:s.Kind=5->Au m s=(CX m s.A&&decide (s.B=-1)&&decide (1<=s.Args.length)&&decide (s.Args.length<=8)&&Cc m.Exprs.length s.Args&&decide (s.Match.length=0)&&(decide (s.N=0)||decide (s.N=1))&&decide (s.Text.size=0)):=fun h=>by unfold Au;grind
 have t6:s.Kind=6->Au m s=(CX m s.A&&decide (s.B=-1)&&Fd m s&&decide (0<=s.N)&&decide (s.N<=3)&&decide (s.Text.size=0)):=fun h=>by unfold Au;grind
 have t7:s.Kind=7∨s.Kind=8->Au m s=(decide (s.A=-1)&&decide (s.B=-1)&&Di s true true true):=fun h=>by unfold Au;grind
 have t9:s.Kind=9->Au m s=(BF m s.A&&decide (s.B=-1)&&decide (0<=s.N)&&decide (s.N<m.Shapes.length)&&Di s true false true):=fun h=>by unfold Au;grind
 have tx:¬(s.Kind=1∨s.Kind=3)->s.Kind≠2->s.Kind≠4->s.Kind≠5->s.Kind≠6->¬(s.Kind=7∨s.Kind=8)->s.Kind≠9->Au m s=false:=fun h1 h2 h3 h4 h5 h6 h7=>by unfold Au;grind
 generalize Au m s=b at t13 t2 t4 t5 t6 t7 t9 tx ⊢
 rw[len0,pl,plB,Lb]
 rw[em]at t13 t2 t7
 rw[emn]at t9
 generalize decide (s.Args.length+s.Match.length=0)=eLen at t13 t2 t7 t9 ⊢
 generalize decide (s.Text.size=0)=eText at t13 t2 t5 t6 t7 t9 ⊢
 refine⟨fun h1=>⟨fun _=>Ap ?_,fun h=>bt h1 h⟩,fun h1=>⟨fun h3=>Ap ?_,fun h3=>⟨fun h2=>Ap ?_,fun h2=>⟨fun h4=>Ap ?_,fun h4=>⟨fun h5=>Ap ?_,fun h5=>⟨fun h6=>⟨BX m m.Exprs.length s.Args s.Match,J4 (Int.le_refl _) ha hb,fun hy=>Ap ?_,fun hy=>?_⟩,fun h6=>⟨fun h7=>⟨fun _=>Ap ?_,fun h=>bt h7 h⟩,fun h7=>⟨fun h8=>Ap ?_,fun h8=>⟨fun h9=>Ap ?_,fun h9=>Ap ?_⟩⟩⟩⟩⟩⟩⟩⟩⟩
 ·grind
 ·grind
 ·grind
 ·rw[t4 (hkn h4)];grind
 ·rw[t5 (hkn h5)];grind
 ·rw[t6 (hkn h6)]
  symm;rw[Bool.eq_false_iff];intro hc
  simp only[Fd,Bool.and_eq_true,decide_eq_true_eq]at hc
  grind
 ·have hall:CX m s.A=true/\s.B=-1/\BX m m.Exprs.length s.Args s.Match=true/\0<=s.N/\s.N<=3/\eText=true:=by simp_all
  obtain⟨c1,c2,c3,c4,c5,c6⟩:=hall
  have hlen:s.Match.length=s.Args.length:=by
   unfold BX at c3
   grind
  have e:b=Cd s.Match.length fun i=>!decide (s.Match.getD i 0=0)||BF m (s.Args.getD i 0):=by
   rw[t6 (hkn h6),c1,c6]
   unfold Fd
   rw[c3];simp[c2,c4,c5]
  rw[e]
  refine AH Ai Aj s.Args.length (fun k=>Ld m s k) (fun k=>∀ i,i<k->(!decide (s.Match.getD i 0=0)||BF m (s.Args.getD i 0))=true) (by kernel_rfl) (by kernel_rfl) (fun i hi=>by omega) ?_
  intro k hk hI J next
  refine AY.raw (V0 _ m s k J) ⟨fun hlt=>?_,fun hge=>Ap ?_⟩
  ·have hlt':k<s.Args.length:=by have:=AG hlt;omega
   have hto:(k:Int).toNat=k:=by omega
   rw[hto]
   have hm:(!decide (s.Match.getD k 0=0)||BF m (s.Args.getD k 0))=!(bif s.Match.getD k 0==0 then !(BF m (s.Args.getD k 0)) else false):=by grind
   refine⟨⟨by omega,by omega⟩,BF m (s.Args.getD k 0),Lw _ _,⟨by omega,by omega⟩,fun hy=>Ap ?_,fun hy=>next _ hlt' (fun i hi=>?_) (Up.of ?_)⟩
   ·grind [BE]
   ·grind
   grind [Ak]
  grind [AI,AK]
 ·grind
 ·grind
 ·grind
 grind
theorem V3 {m:D.Model}{i:Int}{v:D.Var}(h1:v.Scope=1->0<=i/\i<m.Procs.length)(h2:v.Scope≠0->v.Scope≠1->0<=v.Type_/\v.Type_<m.Procs.length):Al Tryz.prog 137 [] [.agg (Af m),Aa i,.agg (BN v)] [] (Aa (EQ m i v)):=by
 refine Ag Ai Aj Tryz.func137 (by kernel_rfl) rfl (Aag _ m i v) ⟨fun h=>Ba ?_,fun h=>⟨fun k=>⟨h1 (by simpa using k),Ba ?_⟩,fun k=>⟨h2 (by simpa using h) (by simpa using k),Ba ?_⟩⟩⟩
 ·unfold EQ;grind
 ·unfold EQ;grind
 ·unfold EQ;grind
def NA (m:D.Model)(a k:Int)(run:Bool):Bool :=
 bif bif (Ao m k).Op==39 then !run else false then true else bif a==m.Claim then bif bif (Ao m k).Op==31 then true else(Ao m k).Op==39 then true else bif (Ao m k).Op==2 then(Ao m k).V.Scope==1 else false else false
def JZ (m:D.Model)(a:Int):Nat->Int->Bool->Bool
 | 0,_,_=>true
 | g+1,k,run=>!NA m a k run&&(!(bif (Ao m k).Op==2 then decide (CM (Ao m k).V > EQ m a (Ao m k).V) else false) &&
   Cd (Bp (Ao m k)).length fun i=>JZ m a g ((Bp (Ao m k)).getD i 0) false)
def FC (m:D.Model)(a k:Int)(run:Bool):Bool:=JZ m a (k.toNat+1) k run
theorem Qv {m:D.Model}(hr:Es m){a:Int}(ha0:0<=a)(ha:a<m.Procs.length):∀ (g:Nat) (k:Int) (run:Bool),0<=k->k<m.Exprs.length->k.toNat<g->Al Tryz.prog 97 [] [.agg (Af m),Aa a,Aa k,Ac run] [] (Ac (JZ m a g k run))
 | 0,_,_,_,_,h=>absurd h (Nat.not_lt_zero _)
 | g+1,k,run,h0,hk,hg=>by
  have ih:=Qv hr ha0 ha g
  have hx:=hr.at h0 hk
  have hsm:=hr.small _ (LW h0 hk)
  have hwv:=(hr.wf.Exprs.2 _ (LW h0 hk)).V
  have hslots:=hr.slots h0 hk
  have hheld:=LR hx
  have hhl:=LP hsm.1 hsm.2
  refine Ag Ai Aj Tryz.func97 (by kernel_rfl) rfl (Aaa _ m a k run) ⟨⟨h0,hk⟩,?_⟩
  show((NA m a k run)=true->_)/\((NA m a k run)=false->_)
  change(_->_)/\(_->∃ y,(_->Al _ _ _ [.agg (BN (Ao m k).V)] _ _)/\∃ y_1,(_->Al _ _ _ [_,_,.agg (BN (Ao m k).V)] _ _)/\_)
  refine⟨fun h=>Ap ?_,fun h=>⟨CM (Ao m k).V,fun _=>M6 hwv,EQ m a (Ao m k).V,fun h2=>V3 (fun _=>⟨ha0,ha⟩) (hslots (by simpa[Ao] using h2)),fun h2=>Ap ?_,fun h2=>⟨Bp (Ao m k),OC hsm.1 hsm.2,?_⟩⟩⟩
  ·unfold JZ;rw[h]<;>rfl
  ·unfold JZ
   have h2':(bif (Ao m k).Op==2 then decide (CM (Ao m k).V > EQ m a (Ao m k).V) else false)=true:=h2
   rw[h2',h]<;>rfl
  ·have h2':(bif (Ao m k).Op==2 then decide (CM (Ao m k).V > EQ m a (Ao m k).V) else false)=false:=h2
   unfold JZ
   rw[h2',h]
   simp only[Bool.not_false,Bool.true_and]
   generalize Bp (Ao m k)=l at hheld hhl
   refine AH Ai Aj l.length (fun j=>NG m a l j) (fun j=>∀ i,i<j->JZ m a g (l.getD i 0) false=true) (by kernel_rfl) (by kernel_rfl) (fun i hi=>by omega) ?_
   intro j hj hI J next
   refine AY.raw (VU _ m a l j J) ⟨fun hlt=>?_,fun hge=>Ap ?_⟩
   ·have hlt':j<l.length:=by have:=AG hlt;omega
    have hto:(j:Int).toNat=j:=by omega
    rw[hto]
    have hin:=hheld _ (An (d:=(0:Int)) hlt')
    refine⟨⟨by omega,by omega⟩,JZ m a g (l.getD j 0) false,ih _ _ (by omega) (by omega) (by omega),fun hy=>Ap ?_,fun hy=>next _ hlt' (B0 hI (by simpa using hy)) (Up.of ?_)⟩
    ·grind [BE]
    grind [Ak]
   grind [AI,AK]
theorem Gl {m:D.Model}(hr:Es m){a:Int}(ha0:0<=a)(ha:a<m.Procs.length){k:Int}{run:Bool}(h0:0<=k)(hk:k<m.Exprs.length):Al Tryz.prog 97 [] [.agg (Af m),Aa a,Aa k,Ac run] [] (Ac (FC m a k run)) :=
 Qv hr ha0 ha _ k run h0 hk (Nat.lt_succ_self _)
def Rl (m:D.Model)(a:Int)(s:D.Stmt):Bool:=bif bif bif bif a==m.Claim then s.Kind != 1 else false then s.Kind != 3 else false then s.Kind != 7 else false then s.Kind != 8 else false
def Rs (m:D.Model)(a:Int)(s:D.Stmt):Bool :=
 Au m s&&(!Rl m a s&&((!decide (s.A>=0)||FC m a s.A (s.Kind==1))&&((!decide (s.B>=0)||FC m a s.B (s.Kind==2))&&Cd s.Args.length fun i=>FC m a (s.Args.getD i 0) false)))
theorem Z7 {m:D.Model}{a:Int}{s:D.Stmt}(hr:Es m)(ha0:0<=a)(ha:a<m.Procs.length)(hs:MT s):Al Tryz.prog 96 [] [.agg (Af m),Aa a,.agg (Ar s)] [] (Ac (Rs m a s)):=by
 have hlen:=hs.a
 refine Ag Ai Aj Tryz.func96 (by kernel_rfl) rfl (Ado _ m a s) ⟨Au m s,VZ hs,?_⟩
 change((bif !(Au m s) then true else Rl m a s)=true->_)/\((bif !(Au m s) then true else Rl m a s)=false->_)
 have e0:Rs m a s=(Au m s&&(!Rl m a s&&((!decide (s.A>=0)||FC m a s.A (s.Kind==1))&&((!decide (s.B>=0)||FC m a s.B (s.Kind==2))&&Cd s.Args.length fun i=>FC m a (s.Args.getD i 0) false)))):=rfl
 generalize Rs m a s=b at e0 ⊢
 refine⟨fun h=>Ap ?_,fun h=>?_⟩
 ·grind
 have hq:Au m s=true:=by grind
 have hcl:Rl m a s=false:=by rw[hq]at h;simpa using h
 rw[hq,hcl]at e0
 simp only[Bool.not_false,Bool.true_and]at e0
 obtain⟨hin,hA,hB⟩:=HP hq
 have loop:b=(Cd s.Args.length fun i=>FC m a (s.Args.getD i 0) false)->Aq (Df Tryz.prog tb A8 GJ true Tryz.f96 [] (Ac b)) [1,1,1,1,1,0,1,0] (IT m a s 0):=by
  intro e
  rw[e]
  refine AH Ai Aj s.Args.length (fun j=>IT m a s j) (fun j=>∀ i,i<j->FC m a (s.Args.getD i 0) false=true) (by kernel_rfl) (by kernel_rfl) (fun i hi=>by omega) ?_
  intro j hj hI J next
  refine AY.raw (Z8 _ m a s j J) ⟨fun hlt=>?_,fun hge=>Ap ?_⟩
  ·have hlt':j<s.Args.length:=by have:=AG hlt;omega
   have hto:(j:Int).toNat=j:=by omega
   rw[hto]
   have hx:=hin _ (An (d:=(0:Int)) hlt')
   refine⟨⟨by omega,by omega⟩,FC m a (s.Args.getD j 0) false,Gl hr ha0 ha hx.1 hx.2,fun hy=>Ap ?_,fun hy=>next _ hlt' (B0 hI (by simpa using hy)) (Up.of ?_)⟩
   ·grind [BE]
   grind [Ak]
  grind [AI,AK]
 refine⟨fun h1=>⟨FC m a s.A (s.Kind==1),Gl hr ha0 ha (by simpa using h1) (hA (by simpa using h1)),fun hy=>Ap ?_,fun hy=>⟨fun h2=>⟨FC m a s.B (s.Kind==2),Gl hr ha0 ha (by simpa using h2) (hB (by simpa using h2)),fun hy2=>Ap ?_,fun hy2=>loop ?_⟩,fun h2=>loop ?_⟩⟩,fun h1=>⟨fun h2=>⟨FC m a s.B (s.Kind==2),Gl hr ha0 ha (by simpa using h2) (hB (by simpa using h2)),fun hy2=>Ap ?_,fun hy2=>loop ?_⟩,fun h2=>loop ?_⟩⟩
 all_goals grind
 all_goals grind
def L6 (m:D.Model)(a:Int)(w:List D.Trans):Bool:=Cd w.length fun h=>Rs m a (w.getD h default).S
def UC (m:D.Model)(a:Int)(l:D.Loc):Bool:=Cd (Bw l).length fun j=>L6 m a ((Bw l).getD j [])
def IE (m:D.Model)(a:Int):Bool:=(Cd (AN m a).Locs.length fun k=>UC m a ((AN m a).Locs.getD k default))&&(decide ((AN m a).Provided<0)||FC m a (AN m a).Provided false)
theorem ZR {s:D.Stmt}(h:Nz s):MT s:=⟨h.Args.1,h.Match.1⟩
theorem PT {m:D.Model}{a:Int}(hr:Es m)(ha0:0<=a)(ha:a<m.Procs.length)(hpv:(AN m a).Provided<m.Exprs.length):Al Tryz.prog 57 [] [.agg (Af m),Aa a] [] (Ac (IE m a)):=by
 have hwp:Fw (AN m a):=hr.wf.Procs.2 _ (An (by omega))
 refine Ag Ai Aj Tryz.func57 (by kernel_rfl) rfl (RN _ m a) ⟨⟨ha0,ha⟩,?_⟩
 have e0:IE m a=((Cd (AN m a).Locs.length fun k=>UC m a ((AN m a).Locs.getD k default))&&(decide ((AN m a).Provided<0)||FC m a (AN m a).Provided false)):=rfl
 change Aq _ _ (He m a (AN m a) 0)
 generalize IE m a=b at e0 ⊢
 generalize AN m a=p at e0 hwp hpv ⊢
 have hL:=hwp.Locs.1
 refine AH Ai Aj p.Locs.length (fun k=>He m a p k) (fun k=>∀ i,i<k->UC m a (p.Locs.getD i default)=true) (by kernel_rfl) (by kernel_rfl) (fun i hi=>by omega) ?_
 intro k hk hI J next
 refine AY.raw (VR _ m a p k J) ⟨fun hlt=>?_,fun hge=>?_⟩
 ·have hlt':k<p.Locs.length:=by have:=AG hlt;omega
  have hto:(k:Int).toNat=k:=by omega
  rw[hto]
  have hwl:=hwp.Locs.2 _ (An (d:=default) hlt')
  have no:UC m a (p.Locs.getD k default)=false->false=b:=fun h=>by grind [BE]
  have yes:UC m a (p.Locs.getD k default)=true->J (He m a p ((k:Int)+1)):=fun h=>next _ hlt' (B0 hI h) (Up.of rfl)
  generalize p.Locs.getD k default=l at hwl no yes ⊢
  have ho:=hwl.Out.1
  have hes:=hwl.Esc.1
  refine⟨⟨by omega,by omega⟩,Bw l,OA hes,?_⟩
  have hwsl:(Bw l).length<=1048577:=by simp[Bw];omega
  have hwse:∀ w∈Bw l,w.length<=1048576/\∀ t∈w,KY t:=by
   intro w hw
   rcases List.mem_cons.1 hw with rfl | hw
   ·exact hwl.Out
   ·exact hwl.Esc.2 w hw
  unfold UC at no yes
  generalize Bw l=ws at no yes hwsl hwse ⊢
  refine AH Ai Aj ws.length (fun j=>IS m a p k ws j) (fun j=>∀ i,i<j->L6 m a (ws.getD i [])=true) (by kernel_rfl) (by kernel_rfl) (fun i hi=>by omega) ?_
  intro j hj hI2 J2 next2
  refine AY.raw (VQ _ m a p k ws j J J2) ⟨fun hlt2=>?_,fun hge2=>?_⟩
  ·have hlt2':j<ws.length:=by have:=AG hlt2;omega
   have hto2:(j:Int).toNat=j:=by omega
   have hwle:=hwse _ (An (d:=[]) hlt2')
   have no2:L6 m a (ws.getD j [])=false->false=b:=fun h=>no (BE (f:=fun j=>L6 m a (ws.getD j [])) hlt2' h)
   have yes2:L6 m a (ws.getD j [])=true->J2 (IS m a p k ws ((j:Int)+1)):=fun h=>next2 _ hlt2' (B0 hI2 h) (Up.of rfl)
   refine AH Ai Aj (ws.getD j []).length (fun h=>Lc m a p k ws j h) (fun h=>∀ i,i<h->Rs m a ((ws.getD j []).getD i default).S=true) (by kernel_rfl) (by kernel_rfl) (fun i hi=>by omega) ?_
   intro h3 hh3 hI3 J3 next3
   refine AY.raw (VP _ m a p k ws j h3 J J2 J3) ?_
   rw[hto2]
   have hwl3:=hwle.1
   refine⟨⟨by omega,by omega⟩,fun hlt3=>?_,fun hge3=>?_⟩
   ·have hlt3':h3<(ws.getD j []).length:=by have:=AG hlt3;omega
    have hto3:(h3:Int).toNat=h3:=by omega
    rw[hto3]
    have hws:=(hwle.2 _ (An (d:=default) hlt3')).S
    refine⟨⟨by omega,by omega⟩,⟨by omega,by omega⟩,Rs m a ((ws.getD j []).getD h3 default).S,Z7 hr ha0 ha (ZR hws),fun hy=>Ap (no2 ?_),fun hy=>next3 _ hlt3' (B0 hI3 (by simpa using hy)) (Up.of ?_)⟩
    ·exact BE (f:=fun h=>Rs m a ((ws.getD j []).getD h default).S) hlt3' (by simpa using hy)
    grind [Ak]
   ·have hge3':(ws.getD j []).length<=h3:=by have:=AI hge3;omega
    rw[Ak (by omega)]
    exact yes2 (AK.2 fun i hi=>hI3 i (by omega))
  grind [AI,Ak,AK]
 ·have hge':p.Locs.length<=k:=by have:=AI hge;omega
  rw[(AK (n:=p.Locs.length) (f:=fun k=>UC m a (p.Locs.getD k default))).2 fun i hi=>hI i (by omega),Bool.true_and]at e0
  refine⟨fun h2=>Ap ?_,fun h2=>⟨FC m a p.Provided false,Gl hr ha0 ha ?_ hpv,Ap ?_⟩⟩
  ·rw[e0,h2]<;>rfl
  ·grind
  ·rw[e0,h2]<;>rfl
def ZN (p:D.Proc):Bool :=
 bif bif bif bif bif decide ((p.Frame.length:Int) > 128) then true else(p.Init.length:Int) != (p.Frame.length:Int) then true else decide (p.Params<0) then true else decide (p.Params > (p.Frame.length:Int)) then true else decide ((p.Locs.length:Int)<1) then true else decide ((p.Locs.length:Int) > 256)
def ZM (m:D.Model)(p:D.Proc)(y:Int):Bool :=
 bif bif bif bif bif bif bif bif bif bif decide (y>=0) then true else decide (p.Start<0) then true else decide (p.Start>=(p.Locs.length:Int)) then true else decide (p.Final<0) then true else decide (p.Final>=(p.Locs.length:Int)) then true else decide (p.Active<0) then true else decide (p.Active > 16) then true else decide (p.Prio<1) then true else decide (p.Prio > 255) then true else decide (p.Provided<(-1:Int)) then true else decide (p.Provided>=(m.Exprs.length:Int))
def AcN (m:D.Model)(a:Int)(p:D.Proc):Bool :=
 bif a==m.Claim then bif bif decide ((p.Frame.length:Int) > 0) then true else decide (p.Active > 0) then true else decide (p.Provided>=0) else false
def Ns (m:D.Model)(a:Int)(p:D.Proc)(k:Int)(l:D.Loc):Bool :=
 bif bif bif decide ((l.Esc.length:Int) > 8) then true else bif l.Dstep then l.Atomic else false then true else bif k==p.Final then bif decide ((l.Out.length:Int) > 0) then true else decide ((l.Esc.length:Int) > 0) else false then true else bif a==m.Claim then bif bif decide ((l.Esc.length:Int) > 0) then true else l.Atomic then true else l.Dstep else false
def IN (p:D.Proc)(t:D.Trans):Bool:=bif decide (t.To<0) then true else decide (t.To>=(p.Locs.length:Int))
def IG (j:Int)(w:List D.Trans):Bool:=bif decide (j > 0) then(w.length:Int)==0 else false
def PR (p:D.Proc)(ws:List (List D.Trans)):Bool:=Cd ws.length fun j=>!IG j (ws.getD j [])&&Cd (ws.getD j []).length fun h=>!IN p ((ws.getD j []).getD h default)
def G9 (ws:List (List D.Trans)):Nat:=(ws.map List.length).sum
def Mr (ls:List D.Loc):Nat:=(ls.map fun l=>G9 (Bw l)).sum
def Ey (m:D.Model)(a:Int):Bool :=
 !ZN (AN m a)&&(!ZM m (AN m a) (Ex (AN m a).Frame (AN m a).Init)&&(!AcN m a (AN m a) &&
  ((Cd (AN m a).Locs.length fun k=>!Ns m a (AN m a) k ((AN m a).Locs.getD k default)&&PR (AN m a) (Bw ((AN m a).Locs.getD k default)))&&decide ((Mr (AN m a).Locs:Int)<=1024))))
theorem AbI {ws:List (List D.Trans)}{j:Nat}(hj:j<ws.length):G9 (ws.take (j+1))=G9 (ws.take j)+(ws.getD j []).length:=by
 unfold G9;grind [CU]
theorem AbJ {ls:List D.Loc}{j:Nat}(hj:j<ls.length):Mr (ls.take (j+1))=Mr (ls.take j)+G9 (Bw (ls.getD j default)):=by
 unfold Mr;grind [CU]
theorem TA {m:D.Model}{a:Int}(hw:A2 m)(ha0:0<=a)(ha:a<m.Procs.length):Al Tryz.prog 56 [] [.agg (Af m),Aa a] [] (Ac (Ey m a)):=by
 have hwp:Fw (AN m a):=hw.Procs.2 _ (An (by omega))
 refine Ag Ai Aj Tryz.func56 (by kernel_rfl) rfl (VY _ m a) ⟨⟨ha0,ha⟩,?_⟩
 have e0:Ey m a=(!ZN (AN m a)&&(!ZM m (AN m a) (Ex (AN m a).Frame (AN m a).Init)&&(!AcN m a (AN m a) &&
  ((Cd (AN m a).Locs.length fun k=>!Ns m a (AN m a) k ((AN m a).Locs.getD k default)&&PR (AN m a) (Bw ((AN m a).Locs.getD k default)))&&decide ((Mr (AN m a).Locs:Int)<=1024))))):=rfl
 change(ZN (AN m a)=true->_)/\(ZN (AN m a)=false->∃ y,Al _ _ _ [Az true (AN m a).Frame,Ad true (AN m a).Init] _ _/\(ZM m (AN m a) y=true->_)/\(ZM m (AN m a) y=false->(AcN m a (AN m a)=true->_)/\(AcN m a (AN m a)=false->Aq _ _ (F6 m a (AN m a) 0 0))))
 generalize Ey m a=b at e0 ⊢
 generalize AN m a=p at e0 hwp ⊢
 have hfr:=hwp.Frame.1
 refine⟨fun h=>Ap (by rw[e0,h]<;>rfl),fun h=>?_⟩
 have hA:p.Init.length=p.Frame.length/\p.Locs.length<=256:=by
  unfold ZN at h;simp at h;omega
 rw[h]at e0
 refine⟨Ex p.Frame p.Init,M4 (by omega) hfr,fun h2=>Ap (by rw[e0,h2]<;>rfl),fun h2=>?_⟩
 rw[h2]at e0
 refine⟨fun h3=>Ap (by rw[e0,h3]<;>rfl),fun h3=>?_⟩
 rw[h3]at e0
 simp only[Bool.not_false,Bool.true_and]at e0
 refine AH Ai Aj p.Locs.length (fun k=>F6 m a p (Mr (p.Locs.take k)) k) (fun k=>(∀ i,i<k->(!Ns m a p i (p.Locs.getD i default)&&PR p (Bw (p.Locs.getD i default)))=true)/\Mr (p.Locs.take k)<=k*9437184) (by kernel_rfl) (by kernel_rfl) ⟨fun i hi=>by omega,by simp[Mr]⟩ ?_
 intro k hk ⟨hI,hmk⟩ J next
 refine AY.raw (TD _ m a p _ k J) ⟨fun hlt=>?_,fun hge=>?_⟩
 ·have hlt':k<p.Locs.length:=by have:=AG hlt;omega
  have hto:(k:Int).toNat=k:=by omega
  rw[hto]
  have hwl:=hwp.Locs.2 _ (An (d:=default) hlt')
  have no:(!Ns m a p k (p.Locs.getD k default)&&PR p (Bw (p.Locs.getD k default)))=false->false=b:=fun h=>by grind [BE]
  have hlt1:=AbJ hlt'
  have yes:(!Ns m a p k (p.Locs.getD k default)&&PR p (Bw (p.Locs.getD k default)))=true->G9 (Bw (p.Locs.getD k default))<=9437184->J (F6 m a p ((Mr (p.Locs.take k):Int)+G9 (Bw (p.Locs.getD k default))) ((k:Int)+1)):=fun h h'=>next _ hlt' (by grind) (Up.of (by rw[hlt1]<;>rfl))
  clear next
  generalize Mr (p.Locs.take k)=many at hmk yes ⊢
  generalize p.Locs.getD k default=l at hwl no yes ⊢
  have ho:=hwl.Out.1
  have hes:=hwl.Esc.1
  refine⟨⟨by omega,by omega⟩,fun hy=>Ap (no ?_),fun hy=>⟨Bw l,OA hes,?_⟩⟩
  ·rw[show Ns m a p k l=true from hy]<;>rfl
  have hesc8:l.Esc.length<=8:=by grind
  rw[show Ns m a p k l=false from hy]at no yes
  simp only[Bool.not_false,Bool.true_and]at no yes
  have hwsl:(Bw l).length<=9:=by simp[Bw];omega
  have hwse:∀ w∈Bw l,w.length<=1048576:=by
   intro w hw
   rcases List.mem_cons.1 hw with rfl | hw
   ·exact ho
   ·exact(hwl.Esc.2 w hw).1
  generalize Bw l=ws at no yes hwsl hwse ⊢
  unfold PR at no yes
  refine AH Ai Aj ws.length (fun j=>Hf m a p ((many:Int)+G9 (ws.take j)) k ws j) (fun j=>(∀ i:Nat,i<j->(!IG i (ws.getD i [])&&Cd (ws.getD i []).length fun h=>!IN p ((ws.getD i []).getD h default))=true)/\G9 (ws.take j)<=j*1048576) (by kernel_rfl) (by kernel_rfl) ⟨fun i hi=>by omega,by simp[G9]⟩ ?_ |> fun h=>by rw[show(many:Int)+(G9 (ws.take 0):Nat)=many by simp[G9]]at h;exact h
  intro j hj ⟨hI2,hmj⟩ J2 next2
  refine AY.raw (TC _ m a p _ k ws j J J2) ⟨fun hlt2=>?_,fun hge2=>?_⟩
  ·have hlt2':j<ws.length:=by have:=AG hlt2;omega
   have hto2:(j:Int).toNat=j:=by omega
   rw[hto2]
   have hwle:=hwse _ (An (d:=[]) hlt2')
   have hls:=AbI hlt2'
   have no2:(!IG j (ws.getD j [])&&Cd (ws.getD j []).length fun h=>!IN p ((ws.getD j []).getD h default))=false->false=b:=fun h=>no (BE (f:=fun j:Nat=>!IG j (ws.getD j [])&&Cd (ws.getD j []).length fun h=>!IN p ((ws.getD j []).getD h default)) hlt2' h)
   have yes2:(!IG j (ws.getD j [])&&Cd (ws.getD j []).length fun h=>!IN p ((ws.getD j []).getD h default))=true->J2 (Hf m a p ((many:Int)+(G9 (ws.take j)+(ws.getD j []).length:Nat)) k ws ((j:Int)+1)):=fun h=>next2 _ hlt2' ⟨fun i hi=>by
    rcases Nat.lt_succ_iff_lt_or_eq.1 hi with h2 | rfl
    ·exact hI2 i h2
    ·exact h,by omega⟩ (Up.of (by rw[hls]<;>rfl))
   refine⟨fun _=>⟨by omega,by omega⟩,fun hy2=>Ap (no2 ?_),fun hy2=>⟨⟨by omega,by omega⟩,?_⟩⟩
   ·rw[show IG j (ws.getD j [])=true from hy2]<;>rfl
   rw[show IG j (ws.getD j [])=false from hy2]at no2 yes2
   simp only[Bool.not_false,Bool.true_and]at no2 yes2
   have hN:IntKind.i64.wrap ((many:Int)+G9 (ws.take j)+((ws.getD j []).length:Int))=(many:Int)+(G9 (ws.take j)+(ws.getD j []).length:Nat):=by
    rw[AL (by omega) (by omega)];omega
   rw[hN]
   generalize (many:Int)+(G9 (ws.take j)+(ws.getD j []).length:Nat)=M at yes2 ⊢
   refine AH Ai Aj (ws.getD j []).length (fun h=>Ju m a p M k ws j h) (fun h=>∀ i,i<h->(!IN p ((ws.getD j []).getD i default))=true) (by kernel_rfl) (by kernel_rfl) (fun i hi=>by omega) ?_
   intro h3 hh3 hI3 J3 next3
   refine AY.raw (TB _ m a p M k ws j h3 J J2 J3) ?_
   rw[hto2]
   refine⟨⟨by omega,by omega⟩,fun hlt3=>?_,fun hge3=>?_⟩
   ·have hlt3':h3<(ws.getD j []).length:=by have:=AG hlt3;omega
    have hto3:(h3:Int).toNat=h3:=by omega
    rw[hto3]
    refine⟨⟨by omega,by omega⟩,⟨by omega,by omega⟩,fun _=>⟨by omega,by omega⟩,fun _=>⟨by omega,by omega⟩,fun hy=>Ap (no2 ?_),fun hy=>next3 _ hlt3' (B0 hI3 ?_) (Up.of ?_)⟩
    ·exact BE (f:=fun h=>!IN p ((ws.getD j []).getD h default)) hlt3' (by show(!IN p _)=false;rw[show IN p ((ws.getD j []).getD h3 default)=true from hy]<;>rfl)
    ·rw[show IN p ((ws.getD j []).getD h3 default)=false from hy]<;>rfl
    grind [Ak]
   grind [AI,Ak,AK]
  ·have hge2':ws.length<=j:=by have:=AI hge2;omega
   rw[Ak (by omega),List.take_of_length_le hge2']
   rw[List.take_of_length_le hge2']at hmj
   exact yes (AK.2 fun i hi=>hI2 i (by omega)) (by omega)
 ·have hge':p.Locs.length<=k:=by have:=AI hge;omega
  rw[(AK (n:=p.Locs.length) (f:=fun k:Nat=>!Ns m a p k (p.Locs.getD k default)&&PR p (Bw (p.Locs.getD k default)))).2 fun i hi=>hI i (by omega),Bool.true_and]at e0
  rw[List.take_of_length_le hge']
  exact Ap e0.symm
theorem L8 {m:D.Model}{a:Int}(h:Ey m a=true):(AN m a).Provided<m.Exprs.length/\0<=(AN m a).Active/\(AN m a).Active<=16:=by
 unfold Ey at h
 simp only[Bool.and_eq_true,Bool.not_eq_true']at h
 have hb:=h.2.1
 unfold ZM at hb
 simp_all
theorem RQ {m:D.Model}(hw:A2 m):Al Tryz.prog 55 [] [.agg (Af m)] [] (.tup [Aa (BS m).1,Aa (BS m).2]):=by
 have hG:=hw.Globals.1
 have hS:=hw.Shapes.1
 have hC:=hw.Chans.1
 have hE:=hw.Exprs.1
 have hPr:=hw.Procs.1
 refine Ag Ai Aj Tryz.func55 (by kernel_rfl) rfl (Tz _ _ m) ?_
 have t1:(bif decide ((m.Globals.length:Int) > 128) then true else(m.Init.length:Int) != (m.Globals.length:Int))=(decide (128<m.Globals.length)||!decide (m.Init.length=m.Globals.length)):=by grind
 have t2:(bif decide ((m.Shapes.length:Int) > 32) then true else decide ((m.Chans.length:Int) > 32))=(decide (32<m.Shapes.length)||decide (32<m.Chans.length)):=by grind
 have t3:(bif bif bif bif decide ((m.Procs.length:Int)<1) then true else decide ((m.Procs.length:Int) > 16) then true else decide (m.Claim<(-1:Int)) then true else decide (m.Claim>=(m.Procs.length:Int)) then true else decide ((m.Exprs.length:Int) > 4096)) =
   (decide (m.Procs.length<1)||(decide (16<m.Procs.length)||(decide (m.Claim < -1)||(decide ((m.Procs.length:Int)<=m.Claim)||decide (4096<m.Exprs.length))))):=by grind
 rw[t1,t2]
 generalize hR:BS m=R
 unfold BS at hR
 refine⟨fun h=>Fb (by grind),fun h=>⟨Ex m.Globals m.Init,M4 (by simp at h;omega) hG,fun h2=>Fb (by grind),fun h2=>⟨fun h3=>Fb ?_,fun h3=>?_⟩⟩⟩
 ·grind
 rw[h,cond_false,h2,cond_false,h3,cond_false]at hR
 refine AH Ai Aj m.Shapes.length (fun k=>NI m k) (fun k=>∀ i,i<k->CF (m.Shapes.getD i default)=true) (by kernel_rfl) (by kernel_rfl) (fun i hi=>by omega) ?_
 intro k hk hI J next
 refine AY.raw (Aae _ _ m k J) ⟨fun hlt=>?_,fun hge=>?_⟩
 ·have hlt':k<m.Shapes.length:=by have:=AG hlt;omega
  refine⟨⟨by omega,by omega⟩,CF (m.Shapes.getD k default),TF (hw.Shapes.2 _ (An hlt')),fun hy=>Fb ?_,fun hy=>next _ hlt' (B0 hI (by simpa using hy)) (Up.of ?_)⟩
  ·have e:FY m=k:=DQ (f:=fun i=>CF (m.Shapes.getD i default)) hI hlt' (by simpa using hy)
   grind
  grind [Ak]
 have hge':m.Shapes.length<=k:=by have:=AI hge;omega
 have es:FY m=-1:=Db (f:=fun i=>CF (m.Shapes.getD i default)) fun i hi=>hI i (by omega)
 rw[es,show decide ((0:Int)<=-1)=false from rfl,cond_false]at hR
 clear hI next
 refine AH Ai Aj m.Chans.length (fun k=>NH m k) (fun k=>∀ i,i<k->inP m.Shapes.length (m.Chans.getD i 0)=true) (by kernel_rfl) (by kernel_rfl) (fun i hi=>by omega) ?_
 intro k hk hI J next
 refine AY.raw (Aad _ _ m k J) ⟨fun hlt=>?_,fun hge=>?_⟩
 ·have hlt':k<m.Chans.length:=by have:=AG hlt;omega
  have hto:(k:Int).toNat=k:=by omega
  rw[hto]
  have hin:inP m.Shapes.length (m.Chans.getD k 0)=!(bif decide (m.Chans.getD k 0<0) then true else decide (m.Chans.getD k 0>=(m.Shapes.length:Int))):=by unfold inP;rw[Bool.eq_iff_iff];simp
  refine⟨⟨by omega,by omega⟩,fun _=>⟨by omega,by omega⟩,fun hy=>Fb ?_,fun hy=>next _ hlt' (B0 hI (by rw[hin,hy]<;>rfl)) (Up.of ?_)⟩
  ·have e:Iq m=k:=DQ (f:=fun i=>inP m.Shapes.length (m.Chans.getD i 0)) hI hlt' (by grind)
   grind
  grind [Ak]
 have hge':m.Chans.length<=k:=by have:=AI hge;omega
 have ec:Iq m=-1:=Db (f:=fun i=>inP m.Shapes.length (m.Chans.getD i 0)) fun i hi=>hI i (by omega)
 rw[ec,show decide ((0:Int)<=-1)=false from rfl,cond_false]at hR
 rw[t3]
 refine⟨fun h4=>Fb (by grind),fun h4=>⟨⟨by omega,by omega,by omega⟩,?_⟩⟩
 rw[h4,cond_false]at hR
 clear hI next
 have hnn:((m.Exprs.length:Int).toNat)=(A1 m).length:=by simp[A1]
 have hnl:(A1 m).length=m.Exprs.length:=by simp[A1]
 refine Aq.le (l':=[(1,.bp 0 0),(8,.ow 1 0 (A1 m).length),(9,Aa 0)]) (hs':=[.box (Af m),.arr true 0 (A1 m).length 1 (EU (A1 m))]) ?_ ?_ ?_
 ·rw[hnn];exact AU _
 ·rw[hnn]
  refine⟨Ob.le_refl _,Ob.le_arr fun i hi=>AZ ?_,trivial⟩
  have:(A1 m).getD i false=false:=by
   have hi':i<m.Exprs.length:=by rw[← hnl];exact hi
   simp[A1,List.getD,hi']
  show _=[Ac ((A1 m).getD i false)]
  rw[this]<;>rfl
 generalize hX:Ij m=X at hR
 have fin:∀ {y:Int × Int},(bif decide (0<=X) then((3:Int),X) else(0,0))=y->y=R:=fun h=>by rw[← h];exact hR
 refine AA Ai Aj (fun g st=>∃ (k:Nat) (had:List Bool),k<=m.Exprs.length/\g=m.Exprs.length - k/\had.length=m.Exprs.length/\Fp m (m.Exprs.length - k) k had=X/\st=RJ m had k) (by kernel_rfl) (by kernel_rfl) ⟨_,Up.of ⟨0,A1 m,Nat.zero_le _,rfl,hnl,hX,rfl⟩⟩ ?_
 rintro g st ⟨k,had,hk,rfl,hhl,hr,rfl⟩
 refine AY.raw (Aac _ _ m had k _) ⟨fun hlt=>?_,fun hge=>Fb (fin ?_)⟩
 ·have hlt':k<m.Exprs.length:=by have:=AG hlt;omega
  have hto:(k:Int).toNat=k:=by omega
  rw[hto]
  have hwx:GS (m.Exprs.getD k default):=hw.Exprs.2 _ (An hlt')
  rw[show m.Exprs.length - k=(m.Exprs.length - (k+1))+1 by omega]at hr
  unfold Fp at hr
  refine⟨CP m k,Wd (by omega) (by omega) (by unfold Ao;rw[hto];exact hwx) hPr,fun hy=>Fb (fin ?_),fun hy=>⟨⟨by omega,by omega⟩,Bp (m.Exprs.getD k default),OC hwx.Args.1 hwx.V.Dims.1,?_⟩⟩
  ·grind
  ·have hye:CP m k=true:=by simpa using hy
   rw[hye,cond_true]at hr
   have hin:=LR hye
   have hhlen:=LP hwx.Args.1 hwx.V.Dims.1
   unfold Ao at hin
   rw[hto]at hin
   generalize Bp (m.Exprs.getD k default)=l at hin hhlen hr ⊢
   generalize ho:PY had l=o at hr
   refine AA Ai Aj (fun g st=>∃ (j:Nat) (had':List Bool),j<=l.length/\g=l.length - j/\had'.length=m.Exprs.length/\PY had' (l.drop j)=o/\st=RH m had' k l j) (by kernel_rfl) (by kernel_rfl) ⟨_,Up.of ⟨0,had,Nat.zero_le _,rfl,hhl,ho,rfl⟩⟩ ?_
   rintro g st ⟨j,had',hj,rfl,hhl',hq,rfl⟩
   refine AY.raw (Aab _ _ m had' k l j _ _) ⟨fun hlt2=>?_,fun hge2=>?_⟩
   ·have hlt2':j<l.length:=by have:=AG hlt2;omega
    have hto2:(j:Int).toNat=j:=by omega
    rw[hto2]
    have hpi:=hin _ (An (d:=0) hlt2')
    rw[Bb (d:=0) hlt2']at hq
    generalize l.getD j 0=p at hpi hq ⊢
    unfold PY at hq
    refine⟨⟨by omega,by omega⟩,⟨by omega,by omega⟩,fun hy=>Fb (fin ?_),fun hy=>⟨⟨by omega,by omega⟩,⟨by omega,by omega⟩,l.length - (j+1),by omega,?_⟩⟩
    ·grind
    ·rw[hy,cond_false]at hq
     have hsl:(had'.set p.toNat true).length=had'.length:=by simp
     rw[Ak (by omega)]
     refine Up.mk (l':=[(1,.bp 0 0),(8,.ow 1 0 (had'.set p.toNat true).length),(9,Aa k),(11,Ad true l),(12,Aa ((j+1:Nat):Int))])
      (hs':=[.box (Af m),.arr true 0 (had'.set p.toNat true).length 1 (EU (had'.set p.toNat true))]) ?_ ?_ ⟨j+1,had'.set p.toNat true,by omega,rfl,by rw[hsl];exact hhl',hq,rfl⟩
     ·rw[hsl];exact AU _
     ·rw[hsl]
      exact⟨Ob.le_refl _,Ob.le_arr fun i hi=>AZ (NS hi),trivial⟩
   ·have hge2':l.length<=j:=by have:=AI hge2;omega
    rw[List.drop_eq_nil_of_le hge2']at hq
    unfold PY at hq
    rw[← hq]at hr
    rw[Ak (by omega)]
    exact⟨m.Exprs.length - (k+1),by omega,Up.of (by grind)⟩
 ·have hge':m.Exprs.length<=k:=by have:=AI hge;omega
  rw[show m.Exprs.length - k=0 by omega]at hr
  unfold Fp at hr
  rw[← hr]<;>rfl
def Om (m:D.Model):Int:=HB m.Procs.length fun i:Nat=>Ey m i
def Ack (m:D.Model):Int:=HB m.Procs.length fun i:Nat=>IE m i
def Ip (m:D.Model):Int × Int × Int :=
 bif decide (0<(BS m).1) then(40,BS m) else bif decide (0<=Om m) then(40,4,Om m) else bif decide (16<El m m.Procs.length) then(40,5,-1)
 else bif decide (0<=Ack m) then(40,6,Ack m) else(0,0,0)
def JX (m:D.Model):Bool:=(Ip m).1==0
theorem TL {m:D.Model}(hw:A2 m):Al Tryz.prog 27 [] [.agg (Af m)] [] (.tup [Aa (Ip m).1,Aa (Ip m).2.1,Aa (Ip m).2.2]):=by
 have hP:=hw.Procs.1
 refine Ag Ai Aj Tryz.func27 (by kernel_rfl) rfl (Wj _ _ _ m) ⟨BS m,RQ hw,?_⟩
 generalize hR:Ip m=R
 unfold Ip at hR
 refine⟨fun h=>J7 (by grind),fun h=>?_⟩
 have hready:=HO hw (of_decide_eq_false h)
 rw[show decide (0<(BS m).1)=false from h,cond_false]at hR
 refine AH Ai Aj m.Procs.length (fun k=>Jx m (El m k) k) (fun k=>(∀ i:Nat,i<k->Ey m i=true)/\0<=El m k/\El m k<=16*k) (by kernel_rfl) (by kernel_rfl) ⟨fun i hi=>by omega,by simp[El],by simp[El]⟩ ?_
 intro k hk ⟨hI,hm0,hm1⟩ J next
 refine AY.raw (TN _ _ _ m (El m k) k J) ⟨fun hlt=>?_,fun hge=>?_⟩
 ·have hlt':k<m.Procs.length:=by have:=AG hlt;omega
  have hto:(k:Int).toNat=k:=by omega
  rw[hto]
  refine⟨Ey m k,TA hw (by omega) (by omega),fun hy=>J7 ?_,fun hy=>⟨⟨by omega,by omega⟩,?_⟩⟩
  ·have e:Om m=k:=DQ (f:=fun i:Nat=>Ey m i) hI hlt' (by simpa using hy)
   grind
  ·have hy':Ey m k=true:=by simpa using hy
   have hac:=(L8 hy').2
   unfold AN at hac
   rw[hto]at hac
   have hms:=QX hlt'
   refine next _ hlt' ⟨B0 hI hy',by omega,by omega⟩ (Up.of ?_)
   grind [Ak,AL]
 ·have hge':k=m.Procs.length:=by have:=AI hge;omega
  subst hge'
  have e:Om m=-1:=Db (f:=fun i:Nat=>Ey m i) fun i hi=>hI i (by omega)
  rw[e,show decide ((0:Int)<=-1)=false from rfl,cond_false]at hR
  refine⟨fun h2=>J7 (by grind),fun h2=>?_⟩
  rw[show decide (16<El m m.Procs.length)=false from h2,cond_false]at hR
  have hpv:∀ i:Nat,i<m.Procs.length->(AN m i).Provided<m.Exprs.length:=fun i hi=>(L8 (hI i hi)).1
  clear hI next
  refine AH Ai Aj m.Procs.length (fun k=>Jw m k) (fun k=>∀ i:Nat,i<k->IE m i=true) (by kernel_rfl) (by kernel_rfl) (fun i hi=>by omega) ?_
  intro k hk hI J next
  refine AY.raw (TM _ _ _ m k J) ⟨fun hlt=>?_,fun hge=>J7 ?_⟩
  ·have hlt':k<m.Procs.length:=by have:=AG hlt;omega
   refine⟨IE m k,PT hready (by omega) (by omega) (hpv _ (by omega)),fun hy=>J7 ?_,fun hy=>next _ hlt' (B0 hI (by simpa using hy)) (Up.of ?_)⟩
   ·have e:Ack m=k:=DQ (f:=fun i:Nat=>IE m i) hI hlt' (by simpa using hy)
    grind
   grind [Ak]
  ·have hge':m.Procs.length<=k:=by have:=AI hge;omega
   have e:Ack m=-1:=Db (f:=fun i:Nat=>IE m i) fun i hi=>hI i (by omega)
   grind
theorem IY {m:D.Model}(hw:A2 m):Al Tryz.prog 12 [] [.agg (Af m)] [] (Ac (JX m)) :=
 Ag Ai Aj Tryz.func12 (by kernel_rfl) rfl (V6 _ m) ⟨Ip m,TL hw,Ap rfl⟩
theorem Uz {m:D.Model}(h:JX m=true):BS m=(0,0):=by
 unfold JX Ip at h
 have hx:¬ 0<(BS m).1:=by grind
 have cases2:(BS m)=(0,0)∨0<(BS m).1:=by
  unfold BS
  grind
 exact cases2.resolve_right hx
theorem HX {t:List D.Type}{l:List Int}(hl:Len l.length):Al Tryz.prog 37 [] [Az true t,Ad true l] [] (Ac (Bi t l)):=by
 unfold Len at hl
 refine Ag Ai Aj Tryz.func37 (by kernel_rfl) rfl (Tw _ t l) ⟨fun h=>Ap ?_,fun h=>?_⟩
 ·unfold Bi
  grind
 ·have hlen:t.length=l.length:=by simp at h;omega
  have e:Bi t l=Cd l.length fun i=>Cx (t.getD i default) (l.getD i 0):=by unfold Bi;grind
  rw[e]
  refine AH Ai Aj t.length (fun k=>F5 t l k) (fun k=>∀ i,i<k->Cx (t.getD i default) (l.getD i 0)=true) (by kernel_rfl) (by kernel_rfl) (fun i hi=>by omega) ?_
  intro k hk hI J next
  refine AY.raw (RP _ t l k J) ⟨fun hlt=>?_,fun hge=>Ap ?_⟩
  ·have hlt':k<t.length:=by have:=AG hlt;omega
   refine⟨⟨by omega,by omega⟩,⟨by omega,by omega⟩,Cx (t.getD k default) (l.getD k 0),OE _ _,fun hy=>Ap ?_,fun hy=>next _ hlt' (B0 hI (by simpa using hy)) (Up.of ?_)⟩
   ·grind [BE]
   ·rw[Ak (by omega)]<;>rfl
  grind [AI,AK]
theorem Aai {m:D.Model}{s:D.State}(hs:F4 s)(hcl:m.Claim<m.Procs.length):Al Tryz.prog 15 [] [.agg (Af m),.agg (Ae s)] [] (Ac (CR m s)):=by
 have hc:=hs.c
 have hp:=hs.p
 unfold Len at hc hp
 have ht:(bif bif bif bif bif bif bif !(Bi m.Globals s.Globals) then true else decide ((s.Chans.length:Int) > 32) then true else decide ((s.Procs.length:Int) > 16) then true else decide (s.Last<0) then true else decide (s.Last > 15) then true else decide (s.Alone<(-1:Int)) then true else decide (s.Alone>=(s.Procs.length:Int)) then true else bif decide (m.Claim<0) then s.Claim != (-1:Int) else false) =
   !(GB m s&&(bif decide (m.Claim<0) then decide (s.Claim=-1) else true)):=by
  unfold GB
  grind
 refine Ag Ai Aj Tryz.func15 (by kernel_rfl) rfl (Adt _ m s) ⟨Bi m.Globals s.Globals,HX hs.g,?_⟩
 rw[ht]
 have e0:CR m s=(GB m s&&(Cd s.Chans.length fun i=>CQ m (s.Chans.getD i default))&&(Cd s.Procs.length fun i=>AT m (s.Procs.getD i default))&&Et m s):=rfl
 generalize CR m s=b at e0 ⊢
 refine⟨fun h=>Ap ?_,fun h=>⟨fun h2=>?_,fun h2=>Ap ?_,fun h2=>?_⟩⟩
 ·rw[e0];unfold Et
  grind
 ·grind
 ·rw[e0];unfold Et
  cases hq2:decide (m.Claim<0)
  ·rw[show decide (m.Claim>=0)=true by simp at hq2 ⊢;omega,cond_true]at h2
   rw[cond_false,show inP (AN m m.Claim).Locs.length s.Claim=false from ?_,Bool.and_false]
   have h2':(bif decide (s.Claim<0) then true else decide (s.Claim>=((AN m m.Claim).Locs.length:Int)))=true:=h2
   rw[Bool.eq_false_iff];intro hc;unfold inP at hc;simp at hc h2';omega
  grind
 have hh:GB m s=true/\Et m s=true:=by
  simp only[Bool.not_eq_false',Bool.and_eq_true]at h
  refine⟨h.1,?_⟩
  unfold Et
  have h3:=h.2
  cases hq2:decide (m.Claim<0)
  ·rw[show decide (m.Claim>=0)=true by simp at hq2 ⊢;omega,cond_true]at h2
   rw[cond_false]
   have h2':(bif decide (s.Claim<0) then true else decide (s.Claim>=((AN m m.Claim).Locs.length:Int)))=false:=h2
   unfold inP;simp at h2' ⊢;omega
  grind
 rw[hh.1,hh.2,Bool.true_and,Bool.and_true]at e0
 refine AH Ai Aj s.Chans.length (fun k=>Li m s k) (fun k=>∀ i,i<k->CQ m (s.Chans.getD i default)=true) (by kernel_rfl) (by kernel_rfl) (fun i hi=>by omega) ?_
 intro k hk hI J next
 refine AY.raw (Aal _ m s k J) ⟨fun hlt=>?_,fun hge=>?_⟩
 ·have hlt':k<s.Chans.length:=by have:=AG hlt;omega
  have hto:(k:Int).toNat=k:=by omega
  rw[hto]
  have hsm:=hs.cs _ (An (d:=default) hlt')
  have no:CQ m (s.Chans.getD k default)=false->false=b:=fun h=>by grind [BE]
  have yes:CQ m (s.Chans.getD k default)=true->J (Li m s ((k:Int)+1)):=fun h=>next _ hlt' (B0 hI h) (Up.of rfl)
  clear next
  generalize s.Chans.getD k default=c at hsm no yes ⊢
  have hq:=hsm.q
  unfold Len at hq
  have hsh:(m.Shapes.getD c.Shape.toNat default)=BW m c.Shape:=rfl
  rw[hsh]
  have ecp:CQ m c=(inP m.Shapes.length c.Shape&&decide ((c.Queue.length:Int)<=(BW m c.Shape).Room)&&Cd c.Queue.length fun i=>Bi (BW m c.Shape).Fields (c.Queue.getD i [])):=rfl
  refine⟨⟨by omega,by omega⟩,fun hy=>?_,fun hy=>Ap (no ?_),fun hy=>?_⟩
  ·simp at hy;omega
  ·grind [B1]
  have hin:0<=c.Shape/\c.Shape<m.Shapes.length/\(c.Queue.length:Int)<=(BW m c.Shape).Room:=by grind
  rw[B1.2 ⟨hin.1,hin.2.1⟩,show decide ((c.Queue.length:Int)<=(BW m c.Shape).Room)=true by simpa using hin.2.2,Bool.true_and,Bool.true_and]at ecp
  rw[ecp]at no yes
  refine AH Ai Aj c.Queue.length (fun j=>NJ m s k c j) (fun j=>∀ i,i<j->Bi (BW m c.Shape).Fields (c.Queue.getD i [])=true) (by kernel_rfl) (by kernel_rfl) (fun i hi=>by omega) ?_
  intro j hj hI2 J2 next2
  refine AY.raw (Aak _ m s k c j J J2) ⟨fun hlt2=>?_,fun hge2=>?_⟩
  ·have hlt2':j<c.Queue.length:=by have:=AG hlt2;omega
   have hto2:(j:Int).toNat=j:=by omega
   rw[hto2]
   refine⟨⟨hin.1,hin.2.1⟩,⟨by omega,by omega⟩,Bi (BW m c.Shape).Fields (c.Queue.getD j []),HX (hsm.m _ (An hlt2')),fun hy=>Ap (no ?_),fun hy=>next2 _ hlt2' (B0 hI2 (by simpa using hy)) (Up.of ?_)⟩
   ·grind [BE]
   grind [Ak]
  grind [AI,Ak,AK]
 have hge':s.Chans.length<=k:=by have:=AI hge;omega
 rw[(AK (n:=s.Chans.length) (f:=fun i=>CQ m (s.Chans.getD i default))).2 fun i hi=>hI i (by omega),Bool.true_and]at e0
 clear hI next
 refine AH Ai Aj s.Procs.length (fun k=>Lh m s k) (fun k=>∀ i,i<k->AT m (s.Procs.getD i default)=true) (by kernel_rfl) (by kernel_rfl) (fun i hi=>by omega) ?_
 intro k hk hI J next
 refine AY.raw (Aaj _ m s k J) ⟨fun hlt=>?_,fun hge=>Ap ?_⟩
 ·have hlt':k<s.Procs.length:=by have:=AG hlt;omega
  have hto:(k:Int).toNat=k:=by omega
  rw[hto]
  have hsm:=hs.ps _ (An (d:=default) hlt')
  have no:AT m (s.Procs.getD k default)=false->false=b:=fun h=>by grind [BE]
  have yes:AT m (s.Procs.getD k default)=true->J (Lh m s ((k:Int)+1)):=fun h=>next _ hlt' (B0 hI h) (Up.of rfl)
  clear next
  generalize s.Procs.getD k default=p at hsm no yes ⊢
  have hpr:m.Procs.getD p.Type_.toNat default=AN m p.Type_:=rfl
  rw[hpr]
  have ep:AT m p=(Cu m p.Type_&&inP (AN m p.Type_).Locs.length p.Loc&&decide (p.Prio=(AN m p.Type_).Prio)&&Bi (AN m p.Type_).Frame p.Frame):=rfl
  refine⟨⟨by omega,by omega⟩,fun hy=>Ap (no ?_),fun hy=>?_⟩
  ·rw[ep,show Cu m p.Type_=false from ?_]
   ·rfl
   ·unfold Cu;grind
  have hpp:0<=p.Type_/\p.Type_<m.Procs.length/\p.Type_≠m.Claim:=by simp at hy;omega
  rw[show Cu m p.Type_=true by unfold Cu;simp;omega,Bool.true_and]at ep
  refine⟨⟨hpp.1,hpp.2.1⟩,Bi (AN m p.Type_).Frame p.Frame,HX hsm,?_⟩
  have ht2:(bif bif bif !(Bi (AN m p.Type_).Frame p.Frame) then true else decide (p.Loc<0) then true else decide (p.Loc>=((AN m p.Type_).Locs.length:Int)) then true else p.Prio != (AN m p.Type_).Prio)=!(AT m p):=by
   rw[ep];unfold inP
   grind
  rw[ht2]
  refine⟨fun hy2=>Ap (no (by simpa using hy2)),fun hy2=>?_⟩
  grind [Ak]
 grind [AI,AK]
def FF (m:D.Model)(s:D.State):Int:=bif JX m then(bif CR m s then 0 else 41) else 40
theorem RR {m:D.Model}{s:D.State}(hw:A2 m)(hs:F4 s):Al Tryz.prog 6 [] [.agg (Af m),.agg (Ae s)] [] (Aa (FF m s)):=by
 refine Ag Ai Aj Tryz.func6 (by kernel_rfl) rfl (TH _ m s) ⟨JX m,IY hw,fun h=>Ba ?_,fun h=>⟨CR m s,Aai hs (RB (Uz (by simpa using h))).claim.2,fun h2=>Ba ?_,fun h2=>Ba ?_⟩⟩
 ·unfold FF;grind
 ·unfold FF;grind
 ·unfold FF;grind
def ZH (e:D.Env):D.Proc:=AN e.M (e.S.Procs.getD e.Pid.toNat default).Type_
def Ae3 (e:D.Env)(esc:Int):List D.Trans :=
 bif decide (esc<0) then((ZH e).Locs.getD (e.S.Procs.getD e.Pid.toNat default).Loc.toNat default).Out else((ZH e).Locs.getD (e.S.Procs.getD e.Pid.toNat default).Loc.toNat default).Esc.getD esc.toNat []
theorem M5 {e:D.Env}(h1:0<=e.Pid/\e.Pid<e.S.Procs.length)(h2:0<=(e.S.Procs.getD e.Pid.toNat default).Type_/\(e.S.Procs.getD e.Pid.toNat default).Type_<e.M.Procs.length):Al Tryz.prog 38 [] [.agg (Ah e)] [] (.agg (AO (ZH e))) :=
 Ag Ai Aj Tryz.func38 (by kernel_rfl) rfl (VX _ e) ⟨h1,h2,trivial,VV.le_refl _⟩
theorem V7 {e:D.Env}{esc:Int}(h1:0<=e.Pid/\e.Pid<e.S.Procs.length)(h2:0<=(e.S.Procs.getD e.Pid.toNat default).Type_/\(e.S.Procs.getD e.Pid.toNat default).Type_<e.M.Procs.length)
  (h3:0<=(e.S.Procs.getD e.Pid.toNat default).Loc/\(e.S.Procs.getD e.Pid.toNat default).Loc<(ZH e).Locs.length) (h4:0<=esc->esc<((ZH e).Locs.getD (e.S.Procs.getD e.Pid.toNat default).Loc.toNat default).Esc.length) :
  Al Tryz.prog 43 [] [.agg (Ah e),Aa esc] [] (As true (Ae3 e esc)):=by
 refine Ag Ai Aj Tryz.func43 (by kernel_rfl) rfl (Aam _ e esc) ⟨ZH e,M5 h1 h2,h1,h3,fun h=>⟨trivial,?_⟩,fun h=>?_⟩
 ·unfold Ae3;rw[h,cond_true];exact VV.le_refl _
 ·have h0:0<=esc:=by grind
  refine⟨⟨h0,h4 h0⟩,trivial,?_⟩
  unfold Ae3;rw[h,cond_false];exact VV.le_refl _
def CL (l:List D.Chan):Nat->List VV:=fun i=>Aw (l.getD i default)
def C9 (l:List D.Process):Nat->List VV:=fun i=>AB (l.getD i default)
def Ed (l:List (List Int)):Nat->List VV:=fun i=>[Ad true (l.getD i [])]
def KE (x:D.State)(c p:VV):List VV:=[Ad true x.Globals,c,p,Aa x.Last,Aa x.Alone,Aa x.Claim]
def obC (s:D.State):Ob:=.arr true 0 s.Chans.length 2 (CL s.Chans)
def obP (s:D.State):Ob:=.arr true 0 s.Procs.length 4 (C9 s.Procs)
def AiN : Shp:={ α:=D.State × ByteArray × Int,enc:=fun y=>([],.tup [.agg (Ae y.1),AS y.2.1,Aa y.2.2]) }
def AiK : Shp:={ α:=ByteArray,enc:=fun y=>([],AS y) }
def Ajk (f:FuncId):Shp :=
         bif Nat.beq f 20 then ZU else bif Nat.beq f 43 then Ac5 else    Ajl f
def DU : List VV:=[.nl,.nl,.nl,Aa 0,Aa 0,Aa 0]
end Go.Proofs.YtlhajmkjfcbhnaaGreat
namespace Go.Proofs.YtlhajmkjfcbhnaaGreat
end Go.Proofs.YtlhajmkjfcbhnaaGreat
namespace Go.Proofs.YtlhajmkjfcbhnaaGreat
open Go.RowKit
def I8 (ids:List Nat):Nat->List Ob->List Ob
 | _,[]=>[]
 | k,o::l=>(bif ids.any (Nat.beq k) then(match o with
   | .arr _ g _ _ _=>.gone (g+1)
   | .gone g=>.gone (g+1)
   | .kar g _ _ _ _ _=>.gone (g+1)
   | .box cs=>.box cs) else o)::I8 ids (k+1) l
theorem KA (ids:List Nat):∀ (l:List Ob) (k:Nat),(I8 ids k l).length=l.length
 | [],_=>rfl
 | _::l,k=>by simp only[I8,List.length_cons,KA ids l (k+1)]
theorem Q6 (ids:List Nat):∀ (l:List Ob) (k j:Nat),j<l.length->(I8 ids k l).getD j (.gone 0)=(bif ids.any (Nat.beq (k+j)) then(match l.getD j (.gone 0) with
   | .arr _ g _ _ _=>.gone (g+1)
   | .gone g=>.gone (g+1)
   | .kar g _ _ _ _ _=>.gone (g+1)
   | .box cs=>.box cs) else l.getD j (.gone 0))
 | [],_,j,h=>absurd h (Nat.not_lt_zero j)
 | o::l,k,0,_=>rfl
 | o::l,k,j+1,h=>by
  have:=Q6 ids l (k+1) j (Nat.lt_of_succ_lt_succ h)
  rw[show k+(j+1)=k+1+j by omega]
  exact this
def Kr (H:Nat->Ob)(k:Nat):List Ob->Option (List Ob × List Nat)
 | []=>some ([],[])
 | .box cs::l =>
  match Dm (Fj H k) cs with
  | some r=>match Kr H k l with
   | some q=>some (.box (r.map (·.1))::q.1,r.flatMap (·.2)++q.2)
   | none=>none
  | none=>none
 | o::l=>match Kr H k l with
  | some q=>some (o::q.1,q.2)
  | none=>none
theorem Mh {H:Nat->Ob}{k:Nat}:∀ {l l':List Ob} {ids:List Nat},Kr H k l=some (l',ids)->l'.length=l.length/\∀ j,j<l.length->(l'.getD j (.gone 0)=l.getD j (.gone 0)/\(∀ cs,l.getD j (.gone 0)≠.box cs)) ∨
  ∃ cs r,l.getD j (.gone 0)=.box cs/\l'.getD j (.gone 0)=.box (r.map (·.1))/\Dm (Fj H k) cs=some r/\∀ p∈r,∀ i∈p.2,i∈ids
 | [],l',ids,h=>by
  simp only[Kr,Option.some.injEq,Prod.mk.injEq]at h
  obtain⟨rfl,rfl⟩:=h
  exact⟨rfl,fun j hj=>absurd hj (Nat.not_lt_zero j)⟩
 | o::l,l',ids,h=>by
  have other:(∀ cs,o≠.box cs)->(match Kr H k l with
    | some q=>some (o::q.1,q.2)
    | none=>none)=some (l',ids)->l'.length=(o::l).length/\∀ j,j<(o::l).length->(l'.getD j (.gone 0)=(o::l).getD j (.gone 0)/\(∀ cs,(o::l).getD j (.gone 0)≠.box cs)) ∨
     ∃ cs r,(o::l).getD j (.gone 0)=.box cs/\l'.getD j (.gone 0)=.box (r.map (·.1))/\Dm (Fj H k) cs=some r/\∀ p∈r,∀ i∈p.2,i∈ids:=by
   intro hn h
   split at h
   ·rename_i q hq
    simp only[Option.some.injEq,Prod.mk.injEq]at h
    obtain⟨rfl,rfl⟩:=h
    obtain⟨e1,e2⟩:=Mh (l':=q.1) (ids:=q.2) hq
    refine⟨by simp[e1],fun j hj=>?_⟩
    cases j with
    | zero=>exact .inl ⟨rfl,hn⟩
    | succ j=>exact e2 j (Nat.lt_of_succ_lt_succ hj)
   ·cases h
  cases o with
  | box cs =>
   simp only[Kr]at h
   split at h
   ·rename_i r hr
    split at h
    ·rename_i q hq
     simp only[Option.some.injEq,Prod.mk.injEq]at h
     obtain⟨rfl,rfl⟩:=h
     obtain⟨e1,e2⟩:=Mh (l':=q.1) (ids:=q.2) hq
     refine⟨by simp[e1],fun j hj=>?_⟩
     cases j with
     | zero=>exact .inr ⟨cs,r,rfl,rfl,hr,fun p hp i hi=>List.mem_append_left _ (List.mem_flatMap.2 ⟨p,hp,hi⟩)⟩
     | succ j =>
      rcases e2 j (Nat.lt_of_succ_lt_succ hj) with h | ⟨cs',r',h1,h2,h3,h4⟩
      ·exact .inl h
      ·exact .inr ⟨cs',r',h1,h2,h3,fun p hp i hi=>List.mem_append_right _ (h4 p hp i hi)⟩
    ·cases h
   ·cases h
  | arr fr g n sz f=>exact other (fun _ h=>by cases h) h
  | gone g=>exact other (fun _ h=>by cases h) h
  | kar=>exact other (fun _ h=>by cases h) h
theorem Cv.pubB {l:List (Nat × VV)}{hs hs':List Ob}{ids:List Nat}(k:Nat)(h:Kr (CG hs) k hs=some (hs',ids)):Cv (Av l hs) (Av l (I8 ids 0 hs')):=by
 intro N E φ a w hr
 have hg:=hr.hp.gone (ids:=ids)
 obtain⟨hlen,hat⟩:=Mh h
 refine⟨Cg ids φ,⟨hr.sz,hr.df,hr.old.ext Cq,fun t'=>?_,⟨hg.sub,fun id p e=>?_,hg.inj,hg.free⟩,fun j hj=>?_,fun j hj=>?_⟩,Cq⟩
 ·have hv:V w _ _ (C6 t' l) _:=hr.tm t'
  exact hv.ext Cq
 ·have h1:=hg.ob id p e
  have hid:id<hs.length:=Classical.byContradiction fun hn=>by
   have:=(Cb (ids:=ids)).2 (hr.fr id (Nat.le_of_not_lt hn))
   rw[this]at e;cases e
  have hgo:=Q6 ids hs' 0 id (by omega)
  rw[Nat.zero_add]at hgo
  show ObV w E (Cg ids φ) ((I8 ids 0 hs').getD id (.gone 0)) p
  rw[hgo]
  rcases hat id hid with⟨e1,hn⟩ | ⟨cs,r,e1,e2,e3,e4⟩
  ·rw[e1];exact h1
  ·rw[e2]
   have hob:∀ q,φ id=some q->ObV w E φ (.box cs) q:=fun q hq=>by
    have:=hr.hp.ob id q hq
    have e1':(Av l hs).H id=.box cs:=e1
    rw[e1']at this
    exact this
   have hbx:(bif ids.any (Nat.beq id) then Ob.box (r.map (·.1)) else Ob.box (r.map (·.1)))=Ob.box (r.map (·.1)):=by cases ids.any (Nat.beq id)<;>rfl
   show ObV w E (Cg ids φ) (bif ids.any (Nat.beq id) then Ob.box (r.map (·.1)) else Ob.box (r.map (·.1))) p
   rw[hbx]
   have hp:∃ q,φ id=some q/\(p=q∨p=Sj q):=by
    unfold Cg at e
    cases hq:ids.any (Nat.beq id) with
    | false=>rw[hq]at e;exact⟨p,e,.inl rfl⟩
    | true =>
     rw[hq]at e
     simp only[cond_true,Option.map_eq_some_iff]at e
     obtain⟨q,h1,h2⟩:=e
     exact⟨q,h1,.inr h2.symm⟩
   obtain⟨q,hq,hpq⟩:=hp
   have hb:=hob q hq
   cases q with
   | arr=>exact hb.elim
   | box b =>
    have:p=.box b:=by rcases hpq with h | h<;>exact h
    subst this
    obtain⟨c,ty,k1,k2⟩:=hb
    obtain⟨o1,o2⟩:=Dd e3
    refine⟨c,ty,k1,⟨by simp[o1,k2.1],fun j y hy=>?_⟩⟩
    simp only[List.getElem?_map,Option.map_eq_some_iff]at hy
    obtain⟨z,hz,rfl⟩:=hy
    obtain⟨x,hx,hf⟩:=o2 j z hz
    exact(V.unhold (H4 hr.hp (ids:=ids) k _ _ _ _ (k2.2 j x hx) hf (e4 z (List.mem_of_getElem? hz)))).held
 ·have hj':(I8 ids 0 hs').length<=j:=hj
  rw[KA,hlen]at hj'
  exact Cb.2 (hr.fr j hj')
 ·have hj':j<(I8 ids 0 hs').length:=hj
  rw[KA,hlen]at hj'
  exact fun h=>hr.lv j hj' (Cb.1 h)
theorem Aq.cv {c:Ctx}{rel:List Nat}{st st':St}(h:Cv st st')(k:Aq c rel st'):Aq c rel st:=Sat.cv h k
def Ae6 (r:VV->VV->Bool):List VV->List VV->Bool
 | [],[]=>true
 | y::ys,x::xs=>r y x&&Ae6 r ys xs
 | _,_=>false
def leF : Nat->VV->VV->Bool
 | 0,_,_=>false
 | _+1,.sc u,.sc v=>Ae2 u v
 | _+1,.nl,.nl=>true
 | _+1,.nl,.sl _ n _ _=>Nat.beq n 0
 | k+1,.sl z n s f,.sl z' n' s' f'=>(z==z')&&(Nat.beq n n'&&(Nat.beq s s'&&Cd n fun i=>Ae6 (leF k) (f i) (f' i)))
 | k+1,.agg ys,.agg xs=>Ae6 (leF k) ys xs
 | _+1,_,_=>false
theorem Sg {r:VV->VV->Bool}(hr:∀ y x,r y x=true->VV.le y x):∀ {ys xs:List VV},Ae6 r ys xs=true->leL ys xs
 | [],[],_=>trivial
 | y::ys,x::xs,h=>by
  simp only[Ae6,Bool.and_eq_true]at h
  exact⟨hr _ _ h.1,Sg hr h.2⟩
 | [],_::_,h=>by cases h
 | _::_,[],h=>by cases h
theorem Sf : ∀ (k:Nat) (y x:VV),leF k y x=true->VV.le y x
 | 0,_,_,h=>by cases h
 | k+1,y,x,h=>by
  unfold leF at h
  split at h
  ·cases h
  ·obtain rfl:=Ae1 h;exact VV.le_refl _
  ·exact VV.le_refl _
  ·obtain rfl:=Nat.eq_of_beq_eq_true h;exact VV.le_nil
  ·simp only[Bool.and_eq_true,beq_iff_eq]at h
   obtain⟨rfl,h1,h2,h3⟩:=h
   obtain rfl:=Nat.eq_of_beq_eq_true h1
   exact VV.le_sl (.inl (Nat.eq_of_beq_eq_true h2)) fun i hi=>Sg (fun y x h=>Sf _ y x h) (AK.1 h3 i hi)
  ·exact VV.le_agg (Sg (fun y x h=>Sf _ y x h) h)
  ·cases h
def CH (l:D.Loc)(esc:Int):List D.Trans:=bif decide (esc<0) then l.Out else l.Esc.getD esc.toNat []
theorem Ux : ∀ {r:List (List D.Trans)} {k:Nat} {i:Int} {ws:List D.Trans},(i,ws)∈XW k r->∃ j:Nat,i=((k+j:Nat):Int)/\r[j]?=some ws
 | [],k,i,ws,h=>by cases h
 | w::r,k,i,ws,h=>by
  rcases List.mem_cons.1 h with h | h
  ·simp only[Prod.mk.injEq]at h
   obtain⟨rfl,rfl⟩:=h
   exact⟨0,by omega,rfl⟩
  ·obtain⟨j,hj,hw⟩:=Ux h
   exact⟨j+1,by omega,by simpa using hw⟩
theorem Fo {l:D.Loc}{i:Int}{ws:List D.Trans}(h:(i,ws)∈Gx l):CH l i=ws/\-1<=i/\i<l.Esc.length/\(ws=l.Out∨ws∈l.Esc):=by
 rcases List.mem_append.1 h with h | h
 ·obtain⟨j,rfl,hj⟩:=Ux h
  obtain⟨hlt,rfl⟩:=List.getElem?_eq_some_iff.1 hj
  refine⟨?_,by omega,by omega,.inr (List.getElem_mem _)⟩
  unfold CH
  grind
 ·simp only[List.mem_singleton,Prod.mk.injEq]at h
  obtain⟨rfl,rfl⟩:=h
  exact⟨rfl,by omega,by omega,.inl rfl⟩
section
variable {e : D.Env} {mt:Int->List Int->List Pn} {ws:List D.Trans} {self:Bool}
theorem AcO {s:D.Stmt}(h:(BA e mt s self).is=false):(BA e mt s self).wth=[]:=by
 unfold BA at h ⊢
 split
 ·cases BJ e s.A<;>rfl
 ·rename_i n1
  rw[if_neg n1]at h
  split
  ·cases BJ e s.B<;>rfl
  ·rename_i n2
   rw[if_neg n2]at h
   split
   ·rfl
   ·rename_i n3
    rw[if_neg n3]at h
    split
    ·rename_i n4
     rw[if_pos n4]at h
     unfold Fg at h ⊢
     cases c1:decide ((AC e s.A).2≠0) with
     | true=>rfl
     | false =>
     rw[c1,cond_false]at h
     rw[cond_false]
     cases c2:decide ((Bo e (AC e s.A).1).length≠s.Args.length) with
     | true=>rfl
     | false =>
     rw[c2,cond_false]at h
     rw[cond_false]
     cases c3:decide (0<(BW e.M (BP e (AC e s.A).1).Shape).Room) with
     | true=>rfl
     | false =>
     rw[c3,cond_false]at h
     rw[cond_false]
     cases c4:self with
     | true=>rfl
     | false =>
     rw[c4,cond_false]at h
     rw[cond_false]
     cases c5:decide ((Ax e s).2.2≠0) with
     | true=>rfl
     | false =>
     simp_all
    grind
theorem L9 {s:D.Stmt}(h:s.Kind=7):BA e mt s self=⟨false,0,[]⟩:=by
 unfold BA
 grind
theorem Tl : ∀ {n:Nat},Dz e mt ws self n=false->∀ j,j<n->(BA e mt (ws.getD j default).S self).is=false
 | 0,_,j,hj=>absurd hj (Nat.not_lt_zero j)
 | n+1,h,j,hj=>by
  unfold Dz at h
  rw[Bool.or_eq_false_iff]at h
  rcases Nat.lt_succ_iff_lt_or_eq.1 hj with h' | rfl
  ·exact Tl h.1 j h'
  ·exact h.2
def Ahm (x:Ab):Prop:=x.is=true∨x.wth≠[]
theorem AfH {j:Nat}(hk:(ws.getD j default).S.Kind=7)(h:Ahm (C1 e mt ws self j)):Dz e mt ws self ws.length=false:=by
 unfold C1 at h
 rw[L9 hk,show decide ((ws.getD j default).S.Kind=7)=true by simpa using hk]at h
 cases hs:Dz e mt ws self ws.length with
 | false=>rfl
 | true =>
  rw[hs]at h
  rcases h with h | h
  ·cases h
  ·exact absurd rfl h
theorem AfG {j:Nat}(hj:j<ws.length)(hs:Dz e mt ws self ws.length=false)(h:Ahm (C1 e mt ws self j)):(ws.getD j default).S.Kind=7:=by
 refine Classical.byContradiction fun hn=>?_
 have his:=Tl hs j hj
 have hw:=AcO his
 unfold C1 at h
 rw[show decide ((ws.getD j default).S.Kind=7)=false by simpa using hn]at h
 rcases h with h | h
 ·grind
 ·exact h hw
theorem Aby {i:Int}{k:Nat}{x:Ab}{w:Wy}(h:w∈Fa i k x):w.Esc=i/\w.Way=k/\Ahm x:=by
 rcases List.mem_append.1 h with h | h
 ·cases c:(x.is&&decide (x.wth.length=0)) with
  | false=>rw[c]at h;cases h
  | true =>
   rw[c]at h
   obtain rfl:=List.mem_singleton.1 h
   simp only[Bool.and_eq_true]at c
   exact⟨rfl,rfl,.inl c.1⟩
 ·obtain⟨p,hp,rfl⟩:=List.mem_map.1 h
  refine⟨rfl,rfl,.inr ?_⟩
  grind
theorem LK {i:Int}:∀ {l:List Ab} {k:Nat} {w:Wy},w∈DC i k l->∃ (j:Nat) (x:Ab),l[j]?=some x/\w.Esc=i/\w.Way=((k+j:Nat):Int)/\Ahm x
 | [],k,w,h=>by cases h
 | x::r,k,w,h=>by
  rcases List.mem_append.1 (show w∈Fa i k x++DC i (k+1) r from h) with h | h
  ·obtain⟨h1,h2,h3⟩:=Aby h
   exact⟨0,x,rfl,h1,h2,h3⟩
  ·obtain⟨j,y,h1,h2,h3,h4⟩:=LK h
   exact⟨j+1,y,h1,h2,by rw[h3];congr 1;omega,h4⟩
theorem KF {j:Nat}{x:Ab}(h:(Dj e mt ws self)[j]?=some x):j<ws.length/\x=C1 e mt ws self j:=by
 unfold Dj at h
 grind
theorem Nj : ∀ {r:List (Int × List D.Trans)},EI e r=[]∨∃ i ws,(i,ws)∈r/\EI e r=DC i 0 (Dj e (Bm e) ws false)
 | []=>.inl rfl
 | (i,ws)::r=>by
  have hq:EI e ((i,ws)::r)=bif decide (0<(DC i 0 (Dj e (Bm e) ws false)).length) then DC i 0 (Dj e (Bm e) ws false) else EI e r:=rfl
  rw[hq]
  cases decide (0<(DC i 0 (Dj e (Bm e) ws false)).length) with
  | true=>exact .inr ⟨i,ws,List.mem_cons_self,rfl⟩
  | false =>
   rcases Nj (r:=r) with h | ⟨i',ws',h1,h2⟩
   ·exact .inl h
   ·exact .inr ⟨i',ws',List.mem_cons_of_mem _ h1,h2⟩
theorem FH : AF e=[]∨(∃ er,AF e=[Nl er])∨∃ i ws,(i,ws)∈Gx (Br e)/\AF e=DC i 0 (Dj e (Bm e) ws false):=by
 unfold AF
 grind [Nj]
theorem SI {w:Wy}(hw:w∈AF e) :
  (w.Way<0->(AF e).length=1)/\(0<=w.Way->-1<=w.Esc/\w.Esc<(Br e).Esc.length/\∀ w'∈AF e,w'.Esc=w.Esc/\0<=w'.Way/\w'.Way<(CH (Br e) w.Esc).length /\
   (((CH (Br e) w.Esc).getD w.Way.toNat default).S.Kind=7->((CH (Br e) w.Esc).getD w'.Way.toNat default).S.Kind=7)):=by
 rcases FH (e:=e) with h | ⟨er,h⟩ | ⟨i,ws,hi,h⟩
 ·rw[h]at hw;cases hw
 ·rw[h]at hw
  obtain rfl:=List.mem_singleton.1 hw
  exact⟨fun _=>by rw[h]<;>rfl,fun h0=>by unfold Nl at h0;simp at h0⟩
 ·rw[h]at hw ⊢
  obtain⟨hl,h1,h2,_⟩:=Fo hi
  obtain⟨j,x,a1,a2,a3,a4⟩:=LK hw
  obtain⟨b1,rfl⟩:=KF a1
  refine⟨fun hn=>by rw[a3]at hn;omega,fun _=>⟨by omega,by omega,fun w' hw'=>?_⟩⟩
  obtain⟨j',x',c1,c2,c3,c4⟩:=LK hw'
  obtain⟨d1,rfl⟩:=KF c1
  rw[a2,hl]
  refine⟨c2,by rw[c3];omega,by rw[c3];omega,fun hk=>?_⟩
  rw[show w.Way.toNat=j by rw[a3];omega]at hk
  rw[show w'.Way.toNat=j' by rw[c3];omega]
  exact AfG d1 (AfH hk a4) c4
end
section
variable {e : D.Env}
theorem SK {i:Int}:∀ {l:List Ab} {k:Nat},(∀ x∈l,x.wth.length<=16384)->(DC i k l).length<=l.length*16385
 | [],_,_=>Nat.zero_le _
 | x::r,k,h=>by
  rw[P8,List.length_append,List.length_cons,Nat.succ_mul]
  have h1:=SK (i:=i) (k:=k+1) fun y hy=>h y (List.mem_cons_of_mem _ hy)
  have h2:(Fa i k x).length<=16385:=by
   have hx:=h x List.mem_cons_self
   unfold Fa
   rw[List.length_append,List.length_map]
   cases (x.is&&decide (x.wth.length=0))
   ·simp;omega
   ·simp;omega
  omega
theorem JG (h:B5 e):(AF e).length<=16778240:=by
 rcases FH (e:=e) with h' | ⟨er,h'⟩ | ⟨i,ws,hi,h'⟩
 ·rw[h'];simp
 ·rw[h'];simp
 ·rw[h']
  obtain⟨_,_,_,hm⟩:=Fo hi
  have hws:=(h.ws (ws:=ws) (by rcases hm with rfl | hm;exact List.mem_cons_self;exact List.mem_cons_of_mem _ hm)).len
  have h1:=SK (i:=i) (k:=0) (l:=Dj e (Bm e) ws false) (U2 h)
  have h2:(Dj e (Bm e) ws false).length=ws.length:=by simp[Dj]
  rw[h2]at h1
  have:=Nat.mul_le_mul_right 16385 hws
  omega
end
section
variable {e : D.Env} {w:Wy}
def D2 : D.State:=⟨[],[],[],0,0,0⟩
theorem Oy {l:List D.Process}{t j:Nat}{p:D.Process}(hj:j<l.length):(bif j.beq t then AB p else AB (l.getD j default))=AB ((l.set t p).getD j default):=by
 cases hq:j.beq t with
 | true =>
  have:=Nat.eq_of_beq_eq_true hq;subst this
  simp[List.getD,hj]
 | false =>
  have hne:t≠j:=by rintro rfl;simp at hq
  simp[List.getD,hne]
def Ahx (m:D.Model)(s:D.State)(k:Int):D.Env:=⟨m,s,k,false,[]⟩
def Iy (m:D.Model)(s:D.State)(k:Nat):Bool:=decide (((AF (Ahx m s k)).length:Int) > 0)
def Cp (m:D.Model)(s:D.State)(k:Nat):List Bool:=(List.range s.Procs.length).map fun i=>bif Nat.blt i k then Iy m s i else false
end
end Go.Proofs.YtlhajmkjfcbhnaaGreat
namespace Go.Proofs.YtlhajmkjfcbhnaaGreat
end Go.Proofs.YtlhajmkjfcbhnaaGreat
namespace Go.Proofs.YtlhajmkjfcbhnaaGreat
open Go.RowKit
def Ajj (f:FuncId):Shp:=   Ajk f
end Go.Proofs.YtlhajmkjfcbhnaaGreat
