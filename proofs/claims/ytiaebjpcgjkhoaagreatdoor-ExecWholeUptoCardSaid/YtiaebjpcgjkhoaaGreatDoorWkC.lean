/-
  Texts, joined: GdW1, GdW2, GdW3, GdW4, GdW5, GdW6, CkP, CkS, CkA, CkH, CkW, Touch, StClone, ExS, CoP, CoV, CellRet, Scope, CoW, ExA, ExH, ValPlain, TwoPlain, ExP, ExOne, ExW1, ExW2, ExW3, ExW4, ExW5, EbP, EbS, EbW, EbX.
-/
import Derived.Test.YtiaebjpcgjkhoaaGreatDoorWkB
import Derived.KernelRfl
import Derived.WalkKit
import Derived.OneCell
import Derived.Deep.QuietTactic
import Derived.BigRegion
import Derived.Deep.RegionLaw
import Derived.Deep.AppendLies
import Derived.Lib.SliceRun
import Derived.Lib.Hide
import Derived.Laws.Rows
import Derived.Test.YtiaebjpcgjkhoaaGreatDoorProg
import Derived.WalkSpells
import Derived.WalkLawsBesides
import Derived.BigQuiet
namespace Go.Proofs.YtiaebjpcgjkhoaaGreatDoor
open Go.RowKit
theorem Ao {a b:Bool} (h:a=b):leO [] []/\VV.le (.sc (.bool a)) (.sc (.bool b)):=⟨trivial,VV.le_eq (by rw [h])⟩
theorem BM {a b:Int} (h:a=b):leO [] []/\VV.le (.sc (.int .i64 a)) (.sc (.int .i64 b)):=⟨trivial,VV.le_eq (by rw [h])⟩
theorem EH {a b c d:Int} (h:(a,b)=(c,d)):leO [] []/\VV.le (.tup [.sc (.int .i64 a),.sc (.int .i64 b)]) (.tup [.sc (.int .i64 c),.sc (.int .i64 d)]):=by
 simp only [Prod.mk.injEq] at h;exact ⟨trivial,VV.le_eq (by rw [h.1,h.2])⟩
theorem Kd {a b c d e f:Int} (h:(a,b,c)=(d,e,f)):leO [] []/\VV.le (.tup [.sc (.int .i64 a),.sc (.int .i64 b),.sc (.int .i64 c)]) (.tup [.sc (.int .i64 d),.sc (.int .i64 e),.sc (.int .i64 f)]):=by
 simp only [Prod.mk.injEq] at h;exact ⟨trivial,VV.le_eq (by rw [h.1,h.2.1,h.2.2])⟩
theorem AQ {a b:Int} (h:decide (a<b)=true):a<b:=of_decide_eq_true h
theorem AT {a b:Int} (h:decide (a<b)=false):b<=a:=by have:=of_decide_eq_false h;omega
theorem Afq {n:Int} (h:Ev.wInt .i64 n):-9223372036854775808<=n/\n<=9223372036854775807:=AbV.1 h
theorem Ta (t:D.Type):Ai Tryz.prog 93 [] [.agg (BU t)] [] (Ac (D3 t)):=by
 refine Ag Ak Aj Tryz.func93 (by kernel_rfl) rfl (Aek _ t) (Ao ?_)
 rw [Bool.eq_iff_iff];simp [D3];cases t.Signed<;>simp<;>omega
theorem Acb {t:D.Type} (h:D3 t=true):1<=t.Bits/\t.Bits<=32/\(t.Signed=true->t.Bits=16∨t.Bits=32):=by
 unfold D3 at h
 simp at h
 refine ⟨h.1,h.2.1,fun hs=>?_⟩
 rcases h.2.2 with h | h
 ·rw [hs] at h;cases h
 ·exact h
theorem WP {n:Nat} (h:n<=32):(1:Int)<=2 ^ n/\(2:Int) ^ n<=4294967296:=by
 have h1:(2:Nat) ^ n<=2 ^ 32:=Nat.pow_le_pow_right (by omega) h
 have h2:1<=(2:Nat) ^ n:=Nat.one_le_two_pow
 have e:(2:Int) ^ n=((2 ^ n:Nat):Int):=by simp
 rw [e]
 have e32:(2:Nat) ^ 32=4294967296:=by decide
 omega
theorem MC (t:D.Type) (v:Int):Ai Tryz.prog 107 [] [.agg (BU t),Aa v] [] (Ac (Ci t v)):=by
 refine Ag Ak Aj Tryz.func107 (by kernel_rfl) rfl (Adx _ t v) ⟨D3 t,Ta t,fun h=>Ao ?_,fun h=>?_⟩
 ·have h':D3 t=false:=by simpa using h
  simp [Ci,h']
 ·have h':D3 t=true:=by simpa using h
  obtain ⟨h1,h2,h3⟩:=Acb h'
  have hb:IntKind.i64.bits=64:=rfl
  have hw:IntKind.i64.wrap (t.Bits - 1)=t.Bits - 1:=A1 (by omega) (by omega)
  refine ⟨fun hs=>?_,fun hs=>?_⟩
  ·rw [hw]
   refine ⟨by omega,fun _=>by omega,Ao ?_⟩
   have hp:=WP (n:=(t.Bits - 1).toNat) (by omega)
   have hm:min (t.Bits - 1).toNat IntKind.i64.bits=(t.Bits - 1).toNat:=by rw [hb];omega
   rw [hm,A1 (n:=-1*_) (by omega) (by omega),A1 (n:=1*_) (by omega) (by omega)]
   have e1:(-1:Int)*2 ^ (t.Bits - 1).toNat=-(2 ^ (t.Bits - 1).toNat):=by omega
   have e2:(1:Int)*2 ^ (t.Bits - 1).toNat=2 ^ (t.Bits - 1).toNat:=by omega
   rw [e1,e2]
   simp only [Ci,h',hs,cond_true,Bool.true_and,ge_iff_le]
   cases decide (-(2:Int) ^ (t.Bits - 1).toNat<=v)<;>rfl
  ·refine ⟨fun _=>by omega,Ao ?_⟩
   have hp:=WP (n:=t.Bits.toNat) (by omega)
   have hm:min t.Bits.toNat IntKind.i64.bits=t.Bits.toNat:=by rw [hb];omega
   rw [hm,A1 (n:=1*_) (by omega) (by omega)]
   have e2:(1:Int)*2 ^ t.Bits.toNat=2 ^ t.Bits.toNat:=by omega
   rw [e2]
   simp only [Ci,h',hs,cond_false,Bool.true_and,ge_iff_le]
   cases decide (0<=v)<;>rfl
theorem Gf {v:D.Var} (hv:Hq v):Ai Tryz.prog 146 [] [.agg (Bj v)] [] (Aa (CK v)):=by
 have hd:=hv.Dims
 refine Ag Ak Aj Tryz.func146 (by kernel_rfl) rfl (Aau _ v) ⟨fun h=>BM ?_,fun h=>?_⟩
 ·unfold CK
  have:(decide (v.Slot<0)||(decide (1073741824<v.Slot)||decide (4<v.Dims.length)))=true:=by simp at h ⊢;omega
  rw [this,cond_true]
 ·have hb:0<=v.Slot/\v.Slot<=1073741824/\v.Dims.length<=4:=by simp at h;omega
  have e:CK v=C9 (v.Slot+1) v.Dims:=by
   unfold CK
   have:(decide (v.Slot<0)||(decide (1073741824<v.Slot)||decide (4<v.Dims.length)))=false:=by simp;omega
   rw [this,cond_false]
  rw [e,A1 (by omega) (by omega)]
  refine Bh Ak Aj (fun g st=>∃ (k:Nat) (n:Int),k<=v.Dims.length/\g=v.Dims.length - k/\0<=n/\n<=1073741825+k*1152921504606846976/\C9 n (v.Dims.drop k)=C9 (v.Slot+1) v.Dims/\st=ND n v k) (by kernel_rfl) (by kernel_rfl)
   ⟨_,Up.of ⟨0,v.Slot+1,Nat.zero_le _,rfl,by omega,by omega,rfl,rfl⟩⟩ ?_
  rintro g st ⟨k,n,hk,rfl,hn0,hn1,hr,rfl⟩
  refine Bb.raw (WD _ n v k _) ⟨fun hlt=>?_,fun hge=>BM ?_⟩
  ·have hlt':k<v.Dims.length:=by have:=AQ hlt;omega
   have hto:(k:Int).toNat=k:=by omega
   rw [hto]
   have hdr:v.Dims.drop k=v.Dims.getD k default::v.Dims.drop (k+1):=by
    rw [List.drop_eq_getElem_cons hlt'];simp [List.getD,hlt']
   have hw:=hd.2 _ (Au (d:=default) hlt')
   generalize v.Dims.getD k default=d at hdr hw ⊢
   have hwl:=Afq hw.Len
   rw [hdr] at hr
   refine ⟨⟨by omega,by omega⟩,fun hy=>BM ?_,fun hy=>?_⟩
   ·rw [← hr]
    have:Gq d=true:=by
     unfold Gq
     by_cases hl:d.Len<1
     ·simp [hl]
     ·rw [A1 (by omega) (by omega)] at hy
      simp at hy ⊢;omega
    show _=C9 n (d::_)
    unfold C9;rw [this]<;>rfl
   ·have hl:1<=d.Len:=by
     by_cases hl:d.Len<1
     ·simp [hl] at hy
     ·omega
    have hwr:IntKind.i64.wrap (d.Len - 1)=d.Len - 1:=A1 (by omega) (by omega)
    rw [hwr] at hy ⊢
    have hb2:d.Len - 1<=1073741824/\0<=d.Stride/\d.Stride<=1073741824:=by simp at hy;omega
    have hbad:Gq d=false:=by unfold Gq;simp;omega
    have hm1:0<=(d.Len - 1)*d.Stride:=Int.mul_nonneg (by omega) hb2.2.1
    have hm2:(d.Len - 1)*d.Stride<=1073741824*1073741824:=Int.mul_le_mul hb2.1 hb2.2.2 hb2.2.1 (by omega)
    rw [A1 (n:=(d.Len - 1)*d.Stride) (by omega) (by omega),A1 (n:=n+_) (by omega) (by omega),Am (by omega)]
    refine ⟨v.Dims.length - (k+1),by omega,Up.of ⟨k+1,n+(d.Len - 1)*d.Stride,by omega,rfl,by omega,by omega,?_,rfl⟩⟩
    rw [← hr]
    show _=C9 n (d::_)
    conv=>rhs;unfold C9
    rw [hbad]<;>rfl
  ·have hge':v.Dims.length<=k:=by have:=AT hge;omega
   rw [List.drop_eq_nil_of_le hge'] at hr
   rw [← hr]<;>rfl
theorem Oo {t:List D.Type} {init:List Int} (hl:t.length<=init.length) (hs:t.length<=1048576):Ai Tryz.prog 130 [] [AE true t,Ad true init] [] (Aa (DB t init)):=by
 refine Ag Ak Aj Tryz.func130 (by kernel_rfl) rfl (Zu _ t init) ?_
 refine AD Ak Aj t.length (fun k=>Ns t init k) (fun k=>∀ i,i<k->Ci (t.getD i default) (init.getD i 0)=true) (by kernel_rfl) (by kernel_rfl) (fun i hi=>by omega) ?_
 intro k hk hI J next
 refine Bb.raw (VL _ t init k J) ⟨fun hlt=>?_,fun hge=>BM ?_⟩
 ·have hlt':k<t.length:=by have:=AQ hlt;omega
  refine ⟨⟨by omega,by omega⟩,⟨by omega,by omega⟩,Ci (t.getD k default) (init.getD k 0),MC _ _,fun hy=>BM ?_,fun hy=>next _ hlt' (fun i hi=>?_) (Up.of ?_)⟩
  ·exact (Dz (f:=fun i=>Ci (t.getD i default) (init.getD i 0)) hI hlt' (by simpa using hy)).symm
  ·rcases Nat.lt_succ_iff_lt_or_eq.1 hi with h | rfl
   ·exact hI i h
   ·simpa using hy
  ·rw [Am (by omega)]<;>rfl
 ·have hge':t.length<=k:=by have:=AT hge;omega
  exact (DA (f:=fun i=>Ci (t.getD i default) (init.getD i 0)) fun i hi=>hI i (by omega)).symm
theorem V7 {s:D.Shape} (hs:K4 s):Ai Tryz.prog 131 [] [.agg (Df s)] [] (Ac (CJ s)):=by
 have hl:=hs.Fields.1
 refine Ag Ak Aj Tryz.func131 (by kernel_rfl) rfl (ZT _ s) ⟨fun h=>Ao ?_,fun h=>?_⟩
 ·symm;rw [Bool.eq_false_iff];intro hc;simp [CJ] at hc h;omega
 ·have e:CJ s=Ce s.Fields.length fun i=>D3 (s.Fields.getD i default):=by
   unfold CJ
   have:(decide (0<=s.Room)&&decide (s.Room<=16)&&decide (1<=s.Fields.length)&&decide (s.Fields.length<=8))=true:=by simp at h ⊢;omega
   rw [this,Bool.true_and]
  rw [e]
  refine AD Ak Aj s.Fields.length (fun k=>Nv s k) (fun k=>∀ i,i<k->D3 (s.Fields.getD i default)=true) (by kernel_rfl) (by kernel_rfl) (fun i hi=>by omega) ?_
  intro k hk hI J next
  refine Bb.raw (V8 _ s k J) ⟨fun hlt=>?_,fun hge=>Ao ?_⟩
  ·have hlt':k<s.Fields.length:=by have:=AQ hlt;omega
   refine ⟨⟨by omega,by omega⟩,D3 (s.Fields.getD k default),Ta _,fun hy=>Ao ?_,fun hy=>next _ hlt' (fun i hi=>?_) (Up.of ?_)⟩
   ·exact (Bo (f:=fun i=>D3 (s.Fields.getD i default)) hlt' (by simpa using hy)).symm
   ·rcases Nat.lt_succ_iff_lt_or_eq.1 hi with h | rfl
    ·exact hI i h
    ·simpa using hy
   ·rw [Am (by omega)]<;>rfl
  ·have hge':s.Fields.length<=k:=by have:=AT hge;omega
   exact (AL.2 fun i hi=>hI i (by omega)).symm
theorem IS (m:D.Model) (n:Int):Ai Tryz.prog 161 [] [tpM m,Aa n] [] (Ac (BO m n)):=by
 refine Ag Ak Aj Tryz.func161 (by kernel_rfl) rfl (WM _ m n) (Ao ?_)
 rw [Bool.eq_iff_iff];simp [BO]
theorem U0 {a:Int} {l:List Int} (hl:l.length<=1099511627776):Ai Tryz.prog 157 [] [Aa a,Ad false l] [] (Ac (BL a l)):=by
 refine Ag Ak Aj Tryz.func157 (by kernel_rfl) rfl (Abz _ a l) ?_
 refine AD Ak Aj l.length (fun k=>NH a l k) (fun k=>∀ i,i<k->inP a (l.getD i 0)=true) (by kernel_rfl) (by kernel_rfl) (fun i hi=>by omega) ?_
 intro k hk hI J next
 refine Bb.raw (XF _ a l k J) ⟨fun hlt=>?_,fun hge=>Ao ?_⟩
 ·have hlt':k<l.length:=by have:=AQ hlt;omega
  have hto:(k:Int).toNat=k:=by omega
  rw [hto]
  refine ⟨⟨by omega,by omega⟩,fun hy=>Ao ?_,fun hy=>next _ hlt' (fun i hi=>?_) (Up.of ?_)⟩
  ·exact (Bo (f:=fun i=>inP a (l.getD i 0)) hlt' (by rw [Bool.eq_false_iff];intro hc;simp [inP] at hc hy;omega)).symm
  ·rcases Nat.lt_succ_iff_lt_or_eq.1 hi with h | rfl
   ·exact hI i h
   ·simp [inP] at hy ⊢;omega
  ·rw [Am (by omega)]<;>rfl
 ·have hge':l.length<=k:=by have:=AT hge;omega
  exact (AL.2 fun i hi=>hI i (by omega)).symm
theorem EX {a:Int} {l:List Int} (hl:l.length<=1099511627776):Ai Tryz.prog 157 [] [Aa a,Ad true l] [] (Ac (BL a l)):=by
 refine Ag Ak Aj Tryz.func157 (by kernel_rfl) rfl (XE _ a l) ?_
 refine AD Ak Aj l.length (fun k=>Lz a l k) (fun k=>∀ i,i<k->inP a (l.getD i 0)=true) (by kernel_rfl) (by kernel_rfl) (fun i hi=>by omega) ?_
 intro k hk hI J next
 refine Bb.raw (UZ _ a l k J) ⟨fun hlt=>?_,fun hge=>Ao ?_⟩
 ·have hlt':k<l.length:=by have:=AQ hlt;omega
  have hto:(k:Int).toNat=k:=by omega
  rw [hto]
  refine ⟨⟨by omega,by omega⟩,fun hy=>Ao ?_,fun hy=>next _ hlt' (fun i hi=>?_) (Up.of ?_)⟩
  ·exact (Bo (f:=fun i=>inP a (l.getD i 0)) hlt' (by rw [Bool.eq_false_iff];intro hc;simp [inP] at hc hy;omega)).symm
  ·rcases Nat.lt_succ_iff_lt_or_eq.1 hi with h | rfl
   ·exact hI i h
   ·simp [inP] at hy ⊢;omega
  ·rw [Am (by omega)]<;>rfl
 ·have hge':l.length<=k:=by have:=AT hge;omega
  exact (AL.2 fun i hi=>hI i (by omega)).symm
theorem MG {a x:Int}:Ai Tryz.prog 157 [] [Aa a,.sl false 1 1 fun i=>List.take 1 (List.drop (i*1) [.sc (.int .i64 x)])] [] (Ac (inP a x)):=by
 have h:=U0 (a:=a) (l:=[x]) (by simp)
 have e:BL a [x]=inP a x:=by simp [BL,Ce,List.getD]
 rw [e] at h
 refine h.le trivial ⟨VV.le_refl _,VV.le_sl (.inl rfl) fun i hi=>A2 ?_,trivial⟩ trivial (VV.le_refl _)
 obtain rfl:i=0:=by omega
 rfl
end Go.Proofs.YtiaebjpcgjkhoaaGreatDoor
namespace Go.Proofs.YtiaebjpcgjkhoaaGreatDoor
open Go.RowKit
theorem bt {b:Bool} {p:Prop} (h:b=true) (k:b=false):p:=by rw [h] at k;cases k
theorem KL {a x:Int}:Ai Tryz.prog 157 [] [Aa a,.sl true 1 1 fun i=>List.take 1 (List.drop (i*1) [.sc (.int .i64 x)])] [] (Ac (inP a x)):=by
 have h:=EX (a:=a) (l:=[x]) (by simp)
 have e:BL a [x]=inP a x:=by simp [BL,Ce,List.getD]
 rw [e] at h
 refine h.le trivial ⟨VV.le_refl _,VV.le_sl (.inl rfl) fun i hi=>A2 ?_,trivial⟩ trivial (VV.le_refl _)
 obtain rfl:i=0:=by omega
 rfl
theorem D5 (op:Int):Ai Tryz.prog 156 [] [Aa op] [] (Aa (AH op)):=by
 refine Ag Ak Aj Tryz.func156 (by kernel_rfl) rfl (AaG _ op) ?_
 have k0:∀ {p:Prop},(op=1∨op=2∨op=31∨op=32∨op=33∨op=34∨op=35∨op=39)->leO [] []/\VV.le (.sc (.int .i64 0)) (.sc (.int .i64 (AH op:Nat))):=fun h=>BM (by unfold AH;rw [if_pos h]<;>rfl)
 have kx:¬(op=1∨op=2∨op=31∨op=32∨op=33∨op=34∨op=35∨op=39)->((op==(24:Int))=true->leO [] []/\(VV.sc (.int .i64 3)).le (.sc (.int .i64 (AH op:Nat))))/\((op==(24:Int))=false ->
   ((bif decide (op>=(6:Int)) then decide (op<=(23:Int)) else false)=true->leO [] []/\(VV.sc (.int .i64 2)).le (.sc (.int .i64 (AH op:Nat))))/\((bif decide (op>=(6:Int)) then decide (op<=(23:Int)) else false)=false->leO [] []/\(VV.sc (.int .i64 1)).le (.sc (.int .i64 (AH op:Nat))))):=by
  intro hn
  refine ⟨fun h=>BM ?_,fun h=>⟨fun h2=>BM ?_,fun h2=>BM ?_⟩⟩
  ·unfold AH;rw [if_neg hn,if_pos (by simpa using h)]<;>rfl
  ·unfold AH;rw [if_neg hn,if_neg (by simpa using h),if_pos (by simp at h2;omega)];rfl
  ·unfold AH;rw [if_neg hn,if_neg (by simpa using h),if_neg (by simp at h2;omega)];rfl
 refine ⟨fun h1=>⟨fun _=>k0 (p:=True) (by simp at h1;omega),fun h=>bt h1 h⟩,fun h1=>⟨fun h2=>⟨fun _=>k0 (p:=True) (by simp at h2;omega),fun h=>bt h2 h⟩,fun h2=>⟨fun h3=>⟨fun _=>k0 (p:=True) (by simp at h3;omega),fun h=>bt h3 h⟩,fun h3=>⟨fun h4=>⟨fun _=>k0 (p:=True) (by simp at h4;omega),fun h=>bt h4 h⟩,fun h4=>⟨fun h5=>⟨fun _=>k0 (p:=True) (by simp at h5;omega),fun h=>bt h5 h⟩,fun h5 =>
  ⟨fun h6=>⟨fun _=>k0 (p:=True) (by simp at h6;omega),fun h=>bt h6 h⟩,fun h6=>⟨fun h7=>⟨fun _=>k0 (p:=True) (by simp at h7;omega),fun h=>bt h7 h⟩,fun h7=>⟨fun h8=>k0 (p:=True) (by simp at h8;omega),fun h8=>kx (by simp at h1 h2 h3 h4 h5 h6 h7 h8;omega)⟩⟩⟩⟩⟩⟩⟩⟩
theorem Zp {m:D.Model} {a:Int} {v:D.Var} (hv:Hq v):Ai Tryz.prog 158 [] [tpM m,Aa a,.agg (Bj v)] [] (Ac (CM m a v)):=by
 have hl:=hv.Dims.1
 refine Ag Ak Aj Tryz.func158 (by kernel_rfl) rfl (Ab6 _ m a v) ?_
 have hloop:∀ b:Bool,b=Ce v.Dims.length (fun i=>Ib a (v.Dims.getD i default))->AA (BP Tryz.prog tb Be Jf true Tryz.f158 [] (Ac b)) [1,1,1,0,1,0] (Ml a v 0):=by
  rintro b rfl
  refine AD Ak Aj v.Dims.length (fun k=>Ml a v k) (fun k=>∀ i,i<k->Ib a (v.Dims.getD i default)=true) (by kernel_rfl) (by kernel_rfl) (fun i hi=>by omega) ?_
  intro k hk hI J next
  refine Bb.raw (Zq _ a v k J) ⟨fun hlt=>?_,fun hge=>Ao ?_⟩
  ·have hlt':k<v.Dims.length:=by have:=AQ hlt;omega
   have hto:(k:Int).toNat=k:=by omega
   rw [hto]
   have hdim:∀ d:D.Dim,Ib a d=!(bif bif bif bif !(inP a d.I) then true else decide (d.Len<1) then true else decide (d.Len > 128) then true else decide (d.Stride<0) then true else decide (d.Stride > 128)):=by
    intro d
    unfold Ib
    cases inP a d.I
    ·rfl
    ·rw [Bool.eq_iff_iff];simp<;>omega
   refine ⟨⟨by omega,by omega⟩,inP a (v.Dims.getD k default).I,MG,fun hy=>Ao ?_,fun hy=>next _ hlt' (fun i hi=>?_) (Up.of ?_)⟩
   ·exact (Bo (f:=fun i=>Ib a (v.Dims.getD i default)) hlt' (by show Ib a _=false;rw [hdim,hy]<;>rfl)).symm
   ·rcases Nat.lt_succ_iff_lt_or_eq.1 hi with h | rfl
    ·exact hI i h
    ·show Ib a _=true;rw [hdim,hy]<;>rfl
   ·rw [Am (by omega)]<;>rfl
  ·have hge':v.Dims.length<=k:=by have:=AT hge;omega
   exact (AL.2 fun i hi=>hI i (by omega)).symm
 unfold CM
 generalize Ce v.Dims.length (fun i=>Ib a (v.Dims.getD i default))=al at hloop ⊢
 refine ⟨fun h=>Ao ?_,fun h=>⟨fun h2=>?_,fun h2=>?_⟩⟩
 ·symm;rw [Bool.eq_false_iff];intro hc;simp at h hc;omega
 all_goals
  have e:(decide (0<=v.Scope)&&decide (v.Scope<=2)&&decide (0<=v.Slot)&&decide (v.Slot<=128)&&decide (v.Dims.length<=4))=true:=by simp at h ⊢;omega
  rw [e,Bool.true_and]
 ·have e2:decide (v.Scope=2)=true:=by simpa using h2
  rw [e2,cond_true]
  refine ⟨inP a v.Who,MG,BO m v.Type_,fun _=>IS _ _,fun hy=>Ao ?_,fun hy=>hloop _ ?_⟩
  ·cases h3:inP a v.Who<;>cases h4:BO m v.Type_<;>rw [h3,h4] at hy<;>first | rfl | cases hy
  ·cases h3:inP a v.Who<;>cases h4:BO m v.Type_<;>rw [h3,h4] at hy<;>first | (simp;done) | cases hy
 ·have e2:decide (v.Scope=2)=false:=by simpa using h2
  rw [e2,cond_false]
  refine ⟨fun hy=>Ao ?_,fun hy=>hloop _ ?_⟩
  ·symm;rw [Bool.eq_false_iff];intro hc;simp at hy hc;omega
  ·have:(decide (v.Who=-1)&&decide (v.Type_=-1))=true:=by simp at hy ⊢;omega
   rw [this,Bool.true_and]
theorem LU {m:D.Model} {a:Int} {args mt:List Int} (ha:a<=m.Exprs.length) (h1:args.length<=1048576) (h2:mt.length<=1048576) :
  Ai Tryz.prog 159 [] [tpM m,Aa a,Ad true args,Ad true mt] [] (Ac (Bt m a args mt)):=by
 refine Ag Ak Aj Tryz.func159 (by kernel_rfl) rfl (Uc _ m a args mt) ⟨BL a args,fun _=>EX (by omega),fun h=>Ao ?_,fun h=>?_⟩
 ·unfold Bt
  symm;rw [Bool.eq_false_iff];intro hc
  simp at hc h
  obtain ⟨⟨⟨⟨c1,c2⟩,c3⟩,c4⟩,_⟩:=hc
  rw [c4] at h
  simp at h
  omega
 ·have hb:BL a args=true:=by
   cases hq:BL a args with
   | true=>rfl
   | false=>rw [hq] at h;simp at h
  have hlen:1<=args.length/\args.length<=8/\mt.length=args.length:=by rw [hb] at h;simp at h;omega
  have e:Bt m a args mt=Ce mt.length fun i=>ES m (args.getD i 0) (mt.getD i 0):=by
   unfold Bt
   rw [hb];simp [hlen]
  rw [e]
  have hin:=D7.1 hb
  refine AD Ak Aj mt.length (fun k=>Jz m args mt k) (fun k=>∀ i,i<k->ES m (args.getD i 0) (mt.getD i 0)=true) (by kernel_rfl) (by kernel_rfl) (fun i hi=>by omega) ?_
  intro k hk hI J next
  refine Bb.raw (Sd _ m args mt k J) ⟨fun hlt=>?_,fun hge=>Ao ?_⟩
  ·have hlt':k<mt.length:=by have:=AQ hlt;omega
   have hto:(k:Int).toNat=k:=by omega
   rw [hto]
   have hx:=hin _ (Au (d:=(0:Int)) (show k<args.length by omega))
   have hm:ES m (args.getD k 0) (mt.getD k 0)=!(bif bif decide (mt.getD k 0 < -1) then true else decide (mt.getD k 0 > 1) then true else bif mt.getD k 0==0 then (m.Exprs.getD (args.getD k 0).toNat default).Op != 2 else false):=by
    unfold ES Ar
    rw [Bool.eq_iff_iff];simp<;>omega
   refine ⟨⟨by omega,by omega⟩,fun _=>⟨by omega,by omega⟩,fun _=>⟨by omega,by omega⟩,fun hy=>Ao ?_,fun hy=>next _ hlt' (fun i hi=>?_) (Up.of ?_)⟩
   ·exact (Bo (f:=fun i=>ES m (args.getD i 0) (mt.getD i 0)) hlt' (by show ES m _ _=false;rw [hm,hy]<;>rfl)).symm
   ·rcases Nat.lt_succ_iff_lt_or_eq.1 hi with h | rfl
    ·exact hI i h
    ·rw [hm,hy]<;>rfl
   ·rw [Am (by omega)]<;>rfl
  ·have hge':mt.length<=k:=by have:=AT hge;omega
   exact (AL.2 fun i hi=>hI i (by omega)).symm
theorem TZ {m:D.Model} {x:D.Expr} (h1:x.Args.length<=1048576):Ai Tryz.prog 160 [] [tpM m,.agg (Az x)] [] (Ac (JI m x)):=by
 refine Ag Ak Aj Tryz.func160 (by kernel_rfl) rfl (WQ _ m x) ⟨BO m x.N,fun _=>IS _ _,fun h=>Ao ?_,fun h=>?_⟩
 ·unfold JI
  symm;rw [Bool.eq_false_iff];intro hc
  simp at hc h
  obtain ⟨⟨⟨⟨c1,c2⟩,c3⟩,c4⟩,_⟩:=hc
  rw [c3] at h
  simp at h
  omega
 ·have hb:BO m x.N=true:=by
   cases hq:BO m x.N with
   | true=>rfl
   | false=>rw [hq] at h;simp at h
  have hp:0<=x.N/\x.N<m.Procs.length:=by unfold BO at hb;simp at hb;omega
  have hlen:0<=x.N/\x.N<1073741824/\1<=x.Args.length:=by rw [hb] at h;simp at h;omega
  refine ⟨⟨by omega,by omega⟩,BL (IY m x.N).length x.Args,EX (by omega),Ao ?_⟩
  unfold JI
  rw [hb];simp [hlen]
theorem Fd {a op:Int} {i:Nat} {p:Int}:Du a op i p=!(bif bif decide ((i:Int)<(AH op:Nat)) then !(inP a p) else false then true else bif decide ((i:Int)>=(AH op:Nat)) then p != -1 else false):=by
 unfold Du
 by_cases h:i<AH op
 ·have h1:decide (i<AH op)=true:=by simpa using h
  have h2:decide ((i:Int)<(AH op:Nat))=true:=by simp;omega
  have h3:decide ((i:Int)>=(AH op:Nat))=false:=by simp;omega
  rw [h1,h2,h3];simp
 ·have h1:decide (i<AH op)=false:=by simpa using h
  have h2:decide ((i:Int)<(AH op:Nat))=false:=by simp;omega
  have h3:decide ((i:Int)>=(AH op:Nat))=true:=by simp;omega
  rw [h1,h2,h3,Bool.eq_iff_iff];simp
theorem Abi {m:D.Model} {a:Int} (h0:0<=a) (ha:a<m.Exprs.length) (hw:Jo (Ar m a)):Ai Tryz.prog 132 [] [tpM m,Aa a] [] (Ac (Dd m a)):=by
 refine Ag Ak Aj Tryz.func132 (by kernel_rfl) rfl (AdA _ m a) ⟨⟨h0,ha⟩,fun h=>Ao ?_,fun h=>?_⟩
 ·symm;rw [Bool.eq_false_iff];intro hc
  unfold Dd at hc
  simp only [Bool.and_eq_true,decide_eq_true_eq] at hc
  have h':(bif decide ((Ar m a).Op<1) then true else decide ((Ar m a).Op > 39))=true:=h
  simp at h'
  omega
 ·have hop:1<=(Ar m a).Op/\(Ar m a).Op<=39:=by
   have h':(bif decide ((Ar m a).Op<1) then true else decide ((Ar m a).Op > 39))=false:=h
   simp at h';omega
  have hargs:=hw.Args.1
  have hmt:=hw.Match.1
  have hwv:=hw.V
  generalize hb:Dd m a=b
  unfold Dd at hb
  simp only at hb
  show AA _ _ (EP m a (Ar m a) 0)
  generalize Ar m a=x at hop hargs hmt hwv hb ⊢
  have e:(decide (1<=x.Op)&&decide (x.Op<=39))=true:=by simp;omega
  rw [e,Bool.true_and] at hb
  refine Bh Ak Aj (fun g st=>(g=3/\st=EP m a x 0)∨(g=2/\Du a x.Op 0 x.A=true/\st=EP m a x 1)∨(g=1/\Du a x.Op 0 x.A=true/\Du a x.Op 1 x.B=true/\st=EP m a x 2)∨(g=0/\Du a x.Op 0 x.A=true/\Du a x.Op 1 x.B=true/\Du a x.Op 2 x.C=true/\st=EP m a x 3))
   (by kernel_rfl) (by kernel_rfl) ⟨3,Up.of (.inl ⟨rfl,rfl⟩)⟩ ?_
  rintro g st (⟨rfl,rfl⟩ | ⟨rfl,p0,rfl⟩ | ⟨rfl,p0,p1,rfl⟩ | ⟨rfl,p0,p1,p2,rfl⟩)
  ·refine Bb.raw (UI _ m a x _) ⟨fun _=>⟨⟨by omega,by omega⟩,_,D5 _,_,fun _=>KL,_,fun _=>D5 _,fun hy=>Ao ?_,fun hy=>⟨2,by omega,Up.of (.inr (.inl ⟨rfl,?_,?_⟩))⟩⟩,fun h=>by cases h⟩
   ·have hp:Du a x.Op 0 x.A=false:=by rw [Fd];exact congrArg (!·) hy
    rw [← hb,hp]<;>rfl
   ·rw [Fd];exact congrArg (!·) hy
   ·rw [A1 (by omega) (by omega)]<;>rfl
  ·refine Bb.raw (UH _ m a x _) ⟨fun _=>⟨⟨by omega,by omega⟩,_,D5 _,_,fun _=>KL,_,fun _=>D5 _,fun hy=>Ao ?_,fun hy=>⟨1,by omega,Up.of (.inr (.inr (.inl ⟨rfl,p0,?_,?_⟩)))⟩⟩,fun h=>by cases h⟩
   ·have hp:Du a x.Op 1 x.B=false:=by rw [Fd];exact congrArg (!·) hy
    rw [← hb,p0,hp]<;>rfl
   ·rw [Fd];exact congrArg (!·) hy
   ·rw [A1 (by omega) (by omega)]<;>rfl
  ·refine Bb.raw (UG _ m a x _) ⟨fun _=>⟨⟨by omega,by omega⟩,_,D5 _,_,fun _=>KL,_,fun _=>D5 _,fun hy=>Ao ?_,fun hy=>⟨0,by omega,Up.of (.inr (.inr (.inr ⟨rfl,p0,p1,?_,?_⟩)))⟩⟩,fun h=>by cases h⟩
   ·have hp:Du a x.Op 2 x.C=false:=by rw [Fd];exact congrArg (!·) hy
    rw [← hb,p0,p1,hp]<;>rfl
   ·rw [Fd];exact congrArg (!·) hy
   ·rw [A1 (by omega) (by omega)]<;>rfl
  ·rw [p0,p1,p2] at hb
   simp only [Bool.and_self,Bool.true_and] at hb
   subst hb
   refine Bb.raw (UF _ m a x _) ⟨fun h=>(by cases h),fun _=>⟨fun h1=>⟨_,MC ⟨32,true⟩ _,Ao ?_⟩,fun h1=>⟨fun h2=>⟨_,Zp hwv,Ao ?_⟩,fun h2=>⟨fun h3=>⟨_,LU (by omega) hargs hmt,Ao ?_⟩,fun h3=>⟨fun h4=>⟨_,TZ hargs,Ao ?_⟩,fun h4 =>
    ⟨fun h5=>⟨BO m x.N,fun _=>IS _ _,fun hy=>?_,BL a x.Args,fun _=>EX (by omega),Ao ?_⟩,fun h5=>Ao ?_⟩⟩⟩⟩⟩⟩
   ·rw [if_pos (by simpa using h1)]
   ·rw [if_neg (by simpa using h1),if_pos (by simpa using h2)]
   ·rw [if_neg (by simpa using h1),if_neg (by simpa using h2),if_pos (by simpa using h3)]
    cases Bt m a x.Args x.Match
    ·rfl
    ·rw [Bool.eq_iff_iff];simp
   ·rw [if_neg (by simpa using h1),if_neg (by simpa using h2),if_neg (by simpa using h3),if_pos (by simpa using h4)]
   ·have hb:BO m x.N=true:=by
     cases hq:BO m x.N with
     | true=>rfl
     | false=>rw [hq] at hy;simp at hy
    unfold BO at hb;simp at hb;omega
   ·rw [if_neg (by simpa using h1),if_neg (by simpa using h2),if_neg (by simpa using h3),if_neg (by simpa using h4),if_pos (by simpa using h5)]
    cases BO m x.N<;>cases BL a x.Args<;>first | (simp;done) | (rw [Bool.eq_iff_iff];simp)
   ·rw [if_neg (by simpa using h1),if_neg (by simpa using h2),if_neg (by simpa using h3),if_neg (by simpa using h4),if_neg (by simpa using h5)]
end Go.Proofs.YtiaebjpcgjkhoaaGreatDoor
namespace Go.Proofs.YtiaebjpcgjkhoaaGreatDoor
open Go.RowKit
theorem B4 {α:Type} {l:List α} {k:Nat} {d:α} (h:k<l.length):l.drop k=l.getD k d::l.drop (k+1):=by
 rw [List.drop_eq_getElem_cons h];simp [List.getD,h]
theorem Ec {α:Type} {l:List α} {k:Nat} {d:α} (h:k<l.length):l.take (k+1)=l.take k++[l.getD k d]:=by
 rw [List.take_add_one,List.getElem?_eq_getElem h];simp [List.getD,h]
theorem L7 {α:Type} {i n:Nat} {a b:α} (h:i<n):(bif Nat.blt i n then a else b)=a:=by
 have hb:Nat.blt i n=true:=Nat.ble_eq_true_of_le h
 rw [hb,cond_true]
theorem NV {α:Type} {i n:Nat} {a b:α} (h:n<=i):(bif Nat.blt i n then a else b)=b:=by
 have hb:Nat.blt i n=false:=by
  cases hq:Nat.blt i n with
  | true=>have:=Nat.le_of_ble_eq_true hq;omega
  | false=>rfl
 rw [hb,cond_false]
theorem Ca {α:Type} {f:α->List VV} {d:α} {l r:List α} {F G:Nat->List VV} (h1:∀ i,i<l.length->F i=f (l.getD i d)) (h2:∀ i,i<r.length->G i=f (r.getD i d)) {i:Nat} (hi:i<(l++r).length) :
  (bif i.blt l.length then F i else G (i - l.length))=f ((l++r).getD i d):=by
 by_cases hl:i<l.length
 ·rw [L7 hl,h1 i hl]
  simp only [List.getD_eq_getElem?_getD,List.getElem?_append_left hl]
 ·rw [NV (by omega),h2 _ (by simp at hi;omega)]
  simp only [List.getD_eq_getElem?_getD,List.getElem?_append_right (by omega:l.length<=i)]
theorem Er {x:Int}:∀ i,i<[x].length->(fun i=>List.take 1 (List.drop (i*1) [VV.sc (.int .i64 x)])) i=(fun n=>[Aa n]) ([x].getD i 0):=by
 intro i hi
 obtain rfl:i=0:=by simpa using hi
 rfl
theorem ZZ {c:Ctx} {rel:List Nat} {l:List (Nat × VV)} {g n sz:Nat} {F G:Nat->List VV} (h:∀ i,i<n->F i=G i) (k:AA c rel (AB l [.arr true g n sz G])):AA c rel (AB l [.arr true g n sz F]) :=
 AA.le (hs:=[.arr true g n sz F]) (hs':=[.arr true g n sz G]) (AY _) ⟨Ob.le_arr fun i hi=>A2 (h i hi),trivial⟩ k
theorem Qg {l:D.Loc} (h1:l.Esc.length<=1048576):Ai Tryz.prog 134 [] [.agg (A9 l)] [] (A0 true (BA l)):=by
 refine Ag Ak Aj Tryz.func134 (by kernel_rfl) rfl (AbY _ l) ⟨by omega,fun i hi=>rfl,trivial,?_⟩
 have e:1+l.Esc.length=(BA l).length:=by simp [BA];omega
 rw [e]
 refine VV.le_sl (.inl rfl) fun i hi=>A2 ?_
 refine Ca (l:=[l.Out]) (r:=l.Esc) (f:=fun w=>[Av true w]) (d:=[]) (F:=fun i=>List.take 1 (List.drop (i*1) [Av true l.Out])) (G:=fun i=>[Av true (l.Esc.getD i [])]) (fun i hi=>?_) (fun i hi=>rfl) hi
 obtain rfl:i=0:=by simpa using hi
 rfl
theorem Xo {p:D.Proc} (hp:GF p):Ai Tryz.prog 103 [] [.agg (AZ p)] [] (Ac (DZ p)):=by
 have h1:=hp.Frame.1
 refine Ag Ak Aj Tryz.func103 (by kernel_rfl) rfl (Abb _ p) ⟨DB p.Frame p.Init,fun h=>Oo ?_ h1,Ao ?_⟩
 ·simp at h;omega
 ·rw [Bool.eq_iff_iff];simp [DZ];omega
theorem Su {p:D.Proc} (hp:GF p):Ai Tryz.prog 105 [] [.agg (AZ p)] [] (Ac (Gr p)):=by
 have h1:=hp.Locs.1
 refine Ag Ak Aj Tryz.func105 (by kernel_rfl) rfl (UT _ p) ⟨fun h=>Ao ?_,fun h=>?_⟩
 ·symm;rw [Bool.eq_false_iff];intro hc;simp [Gr,-List.length_eq_zero_iff] at hc h;omega
 ·have e:Gr p=Ce p.Locs.length fun i=>Gg (p.Locs.getD i default):=by
   unfold Gr
   have:(decide (p.Frame.length=0)&&decide (p.Params<=0)&&decide (p.Active<=0)&&decide (p.Provided=-1))=true:=by simp at h ⊢;omega
   rw [this,Bool.true_and]
  rw [e]
  refine AD Ak Aj p.Locs.length (fun k=>JB p k) (fun k=>∀ i,i<k->Gg (p.Locs.getD i default)=true) (by kernel_rfl) (by kernel_rfl) (fun i hi=>by omega) ?_
  intro k hk hI J next
  refine Bb.raw (Sv _ p k J) ⟨fun hlt=>?_,fun hge=>Ao ?_⟩
  ·have hlt':k<p.Locs.length:=by have:=AQ hlt;omega
   have hto:(k:Int).toNat=k:=by omega
   rw [hto]
   have hpl:∀ l:D.Loc,Gg l=!(bif bif decide ((l.Esc.length:Int) > 0) then true else l.Atomic then true else l.Dstep):=by
    intro l
    unfold Gg
    cases l.Atomic<;>cases l.Dstep<;>rw [Bool.eq_iff_iff]<;>simp
   refine ⟨⟨by omega,by omega⟩,fun hy=>Ao ?_,fun hy=>next _ hlt' (fun i hi=>?_) (Up.of ?_)⟩
   ·exact (Bo (f:=fun i=>Gg (p.Locs.getD i default)) hlt' (by show Gg _=false;rw [hpl,hy]<;>rfl)).symm
   ·rcases Nat.lt_succ_iff_lt_or_eq.1 hi with h | rfl
    ·exact hI i h
    ·rw [hpl,hy]<;>rfl
   ·rw [Am (by omega)]<;>rfl
  ·have hge':p.Locs.length<=k:=by have:=AT hge;omega
   exact (AL.2 fun i hi=>hI i (by omega)).symm
theorem Xj {p:D.Proc} (hp:GF p):Ai Tryz.prog 104 [] [.agg (AZ p)] [] (Ac (EU p)):=by
 have h1:=hp.Locs.1
 refine Ag Ak Aj Tryz.func104 (by kernel_rfl) rfl (Aa9 _ p) ⟨fun h=>Ao ?_,fun h=>?_⟩
 ·symm;rw [Bool.eq_false_iff];intro hc;simp [EU,inP] at hc h;omega
 ·have e:EU p=IX p.Locs.length p.Final 0 0 p.Locs:=by
   unfold EU
   have:(decide (1<=p.Locs.length)&&decide (p.Locs.length<=256)&&inP p.Locs.length p.Start&&inP p.Locs.length p.Final)=true:=by simp [inP] at h ⊢;omega
   rw [this,Bool.true_and]
  rw [e]
  generalize hb:IX p.Locs.length p.Final 0 0 p.Locs=b
  refine Bh Ak Aj (fun g st=>∃ (k many:Nat),k<=p.Locs.length/\g=p.Locs.length - k/\many<=1024/\IX p.Locs.length p.Final many k (p.Locs.drop k)=b/\st=Lw p many k) (by kernel_rfl) (by kernel_rfl) ⟨_,Up.of ⟨0,0,Nat.zero_le _,rfl,by omega,hb,rfl⟩⟩ ?_
  rintro g st ⟨k,many,hk,rfl,hm,hr,rfl⟩
  refine Bb.raw (Xm _ p many k _) ⟨fun hlt=>?_,fun hge=>Ao ?_⟩
  ·have hlt':k<p.Locs.length:=by have:=AQ hlt;omega
   have hto:(k:Int).toNat=k:=by omega
   rw [hto]
   have hwl:=hp.Locs.2 _ (Au (d:=default) hlt')
   rw [B4 (d:=default) hlt'] at hr
   generalize p.Locs.getD k default=l at hwl hr ⊢
   have ho:=hwl.Out.1
   have hes:=hwl.Esc.1
   have hbad:Sf p.Final k l=bif bif decide ((l.Esc.length:Int) > 8) then true else bif l.Dstep then l.Atomic else false then true else bif (k:Int)==p.Final then decide (IntKind.i64.wrap ((l.Out.length:Int)+(l.Esc.length:Int)) > 0) else false:=by
    rw [A1 (by omega) (by omega)]
    unfold Sf
    cases l.Dstep<;>cases l.Atomic<;>rw [Bool.eq_iff_iff]<;>simp<;>omega
   rw [← hbad]
   unfold IX at hr
   refine ⟨⟨by omega,by omega⟩,fun hy=>Ao ?_,fun hy=>?_⟩
   ·rw [hy,cond_true] at hr;exact hr
   ·rw [hy,cond_false] at hr
    refine ⟨BA l,Qg hes,?_⟩
    have hwsl:(BA l).length<=1048577:=by simp [BA];omega
    have hwse:∀ w∈BA l,w.length<=1048576:=by
     intro w hw
     rcases List.mem_cons.1 hw with rfl | hw
     ·exact ho
     ·exact (hwl.Esc.2 w hw).1
    generalize BA l=ws at hr hwsl hwse ⊢
    generalize hwo:Hr p.Locs.length many 0 ws=wo at hr
    refine Bh Ak Aj (fun g st=>∃ (j mn:Nat),j<=ws.length/\g=ws.length - j/\mn<=1024/\Hr p.Locs.length mn j (ws.drop j)=wo/\st=Lv p mn k ws j) (by kernel_rfl) (by kernel_rfl) ⟨_,Up.of ⟨0,many,Nat.zero_le _,rfl,hm,hwo,rfl⟩⟩ ?_
    rintro g st ⟨j,mn,hj,rfl,hmn,hq,rfl⟩
    refine Bb.raw (Xl _ p mn k ws j _ _) ⟨fun hlt2=>?_,fun hge2=>?_⟩
    ·have hlt2':j<ws.length:=by have:=AQ hlt2;omega
     have hto2:(j:Int).toNat=j:=by omega
     rw [hto2]
     have hwle:=hwse _ (Au (d:=[]) hlt2')
     rw [B4 (d:=[]) hlt2'] at hq
     generalize ws.getD j []=w at hwle hq ⊢
     unfold Hr at hq
     rw [A1 (n:=(mn:Int)+_) (by omega) (by omega)]
     have e1:(bif decide ((j:Int) > 0) then (w.length:Int)==0 else false)=(decide (0<j)&&decide (w.length=0)):=by
      rw [Bool.eq_iff_iff];simp
     have e2:decide ((mn:Int)+(w.length:Int) > 1024)=decide (1024<mn+w.length):=by
      rw [Bool.eq_iff_iff];simp;omega
     rw [e1,e2]
     refine ⟨⟨by omega,by omega⟩,fun hy1=>Ao ?_,fun hy1=>⟨fun hy2=>Ao ?_,fun hy2=>?_⟩⟩
     ·rw [hy1,cond_true] at hq;rw [← hq] at hr;exact hr
     ·rw [hy1,cond_false,hy2,cond_true] at hq;rw [← hq] at hr;exact hr
     ·rw [hy1,cond_false,hy2,cond_false] at hq
      have hmn2:mn+w.length<=1024:=by simpa using hy2
      rw [show (mn:Int)+(w.length:Int)=((mn+w.length:Nat):Int) by omega]
      refine AD Ak Aj w.length (fun h=>Lu p (mn+w.length:Nat) k ws j w h) (fun h=>∀ i,i<h->inP p.Locs.length (w.getD i default).To=true) (by kernel_rfl) (by kernel_rfl) (fun i hi=>by omega) ?_
      intro h3 hh3 hI J3 next
      refine Bb.raw (Xk _ p _ k ws j w h3 _ _ J3) ⟨fun hlt3=>?_,fun hge3=>?_⟩
      ·have hlt3':h3<w.length:=by have:=AQ hlt3;omega
       have hto3:(h3:Int).toNat=h3:=by omega
       rw [hto3]
       have hin:inP p.Locs.length (w.getD h3 default).To=!(bif decide ((w.getD h3 default).To<0) then true else decide ((w.getD h3 default).To>=(p.Locs.length:Int))):=by
        unfold inP;rw [Bool.eq_iff_iff];simp
       refine ⟨⟨by omega,by omega⟩,fun hy=>Ao ?_,fun hy=>next _ hlt3' (fun i hi=>?_) (Up.of ?_)⟩
       ·have:=Bo (n:=w.length) (f:=fun i=>inP p.Locs.length (w.getD i default).To) hlt3' (by show inP _ _=false;rw [hin,hy]<;>rfl)
        rw [this,cond_false] at hq;rw [← hq] at hr;exact hr
       ·rcases Nat.lt_succ_iff_lt_or_eq.1 hi with h | rfl
        ·exact hI i h
        ·rw [hin,hy]<;>rfl
       ·rw [Am (by omega)]<;>rfl
      ·have hge3':w.length<=h3:=by have:=AT hge3;omega
       have:=(AL (n:=w.length) (f:=fun i=>inP p.Locs.length (w.getD i default).To)).2 fun i hi=>hI i (by omega)
       rw [this,cond_true] at hq
       rw [Am (by omega)]
       exact ⟨ws.length - (j+1),by omega,Up.of ⟨j+1,mn+w.length,by omega,rfl,hmn2,hq,rfl⟩⟩
    ·have hge2':ws.length<=j:=by have:=AT hge2;omega
     rw [List.drop_eq_nil_of_le hge2'] at hq
     unfold Hr at hq
     rw [← hq] at hr
     rw [Am (by omega)]
     exact ⟨p.Locs.length - (k+1),by omega,Up.of ⟨k+1,mn,by omega,rfl,hmn,hr,rfl⟩⟩
  ·have hge':p.Locs.length<=k:=by have:=AT hge;omega
   rw [List.drop_eq_nil_of_le hge'] at hr
   exact hr
theorem Lf (t:ByteArray):(t.toList==(⟨#[]⟩:ByteArray).toList)=decide (t.size=0):=by
 rw [ByteArray.toList_eq,ByteArray.toList_eq,Bool.eq_iff_iff,beq_iff_eq,decide_eq_true_eq]
 show t.data.toList=[] ↔ t.data.size=0
 rw [← Array.length_toList,List.length_eq_zero_iff]
theorem Xx {s:D.Stmt} {u v x:Bool} (h1:s.Args.length<=1048576) (h2:s.Match.length<=1048576):Ai Tryz.prog 173 [] [.agg (Ap s),Ac u,Ac v,Ac x] [] (Ac (C6 s u v x)):=by
 refine Ag Ak Aj Tryz.func173 (by kernel_rfl) rfl (Abp _ s u v x) (Ao ?_)
 rw [A1 (by omega) (by omega),Lf]
 unfold C6
 have e1:((s.Args.length:Int)+(s.Match.length:Int)==0)=decide (s.Args.length+s.Match.length=0):=by rw [Bool.eq_iff_iff,beq_iff_eq,decide_eq_true_eq];omega
 have e2:(s.N==0)=decide (s.N=0):=by rw [Bool.eq_iff_iff,beq_iff_eq,decide_eq_true_eq]
 rw [e1,e2]
 generalize decide (s.Args.length+s.Match.length=0)=b1
 generalize decide (s.N=0)=b2
 generalize decide (s.Text.size=0)=b3
 cases u<;>cases v<;>cases x<;>cases b1<;>cases b2<;>cases b3<;>rfl
theorem EQ (m:D.Model) (a:Int):Ai Tryz.prog 172 [] [tpM m,Aa a] [] (Ac (CG m a)) :=
 Ag Ak Aj Tryz.func172 (by kernel_rfl) rfl (AaF _ m a) ⟨inP m.Exprs.length a,MG,Ao rfl⟩
theorem IH (m:D.Model) (a:Int):Ai Tryz.prog 174 [] [tpM m,Aa a] [] (Ac (Bn m a)):=by
 have hin:∀ y:Bool,y=CG m a->y=true->0<=a/\a<m.Exprs.length:=fun y hy h=>Cz.1 (by rw [hy] at h;exact h)
 refine Ag Ak Aj Tryz.func174 (by kernel_rfl) rfl (VO _ m a) ⟨CG m a,EQ m a,fun h=>hin _ rfl (by simpa using h),fun h=>hin _ rfl ?_,Ao ?_⟩
 ·cases hq:CG m a with
  | true=>rfl
  | false=>rw [hq] at h;simp at h
 ·unfold Bn Ar
  cases CG m a
  ·rfl
  ·rw [Bool.eq_iff_iff];simp
theorem VP {m:D.Model} {s:D.Stmt} (h1:s.Args.length<=1048576) (h2:s.Match.length<=1048576):Ai Tryz.prog 175 [] [tpM m,.agg (Ap s)] [] (Ac (Ft m s)):=by
 refine Ag Ak Aj Tryz.func175 (by kernel_rfl) rfl (ZA _ m s) ⟨Bt m m.Exprs.length s.Args s.Match,LU (Int.le_refl _) h1 h2,fun h=>Ao ?_,fun h=>?_⟩
 ·have h':Bt m m.Exprs.length s.Args s.Match=false:=by simpa using h
  unfold Ft;rw [h',Bool.false_and]
 ·have h':Bt m m.Exprs.length s.Args s.Match=true:=by simpa using h
  have hlen:s.Match.length=s.Args.length:=by
   unfold Bt at h'
   simp only [Bool.and_eq_true,decide_eq_true_eq] at h'
   exact h'.1.1.2
  have e:Ft m s=Ce s.Match.length fun i=>!decide (s.Match.getD i 0=0)||Bn m (s.Args.getD i 0):=by unfold Ft;rw [h',Bool.true_and]
  rw [e]
  refine AD Ak Aj s.Match.length (fun k=>Nu m s k) (fun k=>∀ i,i<k->(!decide (s.Match.getD i 0=0)||Bn m (s.Args.getD i 0))=true) (by kernel_rfl) (by kernel_rfl) (fun i hi=>by omega) ?_
  intro k hk hI J next
  refine Bb.raw (VQ _ m s k J) ⟨fun hlt=>?_,fun hge=>Ao ?_⟩
  ·have hlt':k<s.Match.length:=by have:=AQ hlt;omega
   have hto:(k:Int).toNat=k:=by omega
   rw [hto]
   have hm:(!decide (s.Match.getD k 0=0)||Bn m (s.Args.getD k 0))=!(bif s.Match.getD k 0==0 then !(Bn m (s.Args.getD k 0)) else false):=by
    generalize s.Match.getD k 0=z
    cases Bn m (s.Args.getD k 0)
    ·rw [Bool.eq_iff_iff];simp
    ·simp
   refine ⟨⟨by omega,by omega⟩,fun _=>⟨by omega,by omega⟩,Bn m (s.Args.getD k 0),fun _=>IH _ _,fun hy=>Ao ?_,fun hy=>next _ hlt' (fun i hi=>?_) (Up.of ?_)⟩
   ·exact (Bo (f:=fun i=>!decide (s.Match.getD i 0=0)||Bn m (s.Args.getD i 0)) hlt' (by show (!decide (s.Match.getD k 0=0)||Bn m (s.Args.getD k 0))=false;rw [hm,hy]<;>rfl)).symm
   ·rcases Nat.lt_succ_iff_lt_or_eq.1 hi with h | rfl
    ·exact hI i h
    ·rw [hm,hy]<;>rfl
   ·rw [Am (by omega)]<;>rfl
  ·have hge':s.Match.length<=k:=by have:=AT hge;omega
   exact (AL.2 fun i hi=>hI i (by omega)).symm
theorem ON {m:D.Model} {i:Int} {v:D.Var} (h1:v.Scope=1->0<=i/\i<m.Procs.length) (h2:v.Scope≠0->v.Scope≠1->0<=v.Type_/\v.Type_<m.Procs.length):Ai Tryz.prog 163 [] [tpM m,Aa i,.agg (Bj v)] [] (Aa (En m i v)):=by
 refine Ag Ak Aj Tryz.func163 (by kernel_rfl) rfl (ZN _ m i v) ⟨fun h=>BM ?_,fun h=>⟨fun k=>⟨h1 (by simpa using k),BM ?_⟩,fun k=>⟨h2 (by simpa using h) (by simpa using k),BM ?_⟩⟩⟩
 ·unfold En;rw [if_pos (by simpa using h)]
 ·unfold En;rw [if_neg (by simpa using h),if_pos (by simpa using k)]
 ·unfold En;rw [if_neg (by simpa using h),if_neg (by simpa using k)]
end Go.Proofs.YtiaebjpcgjkhoaaGreatDoor
namespace Go.Proofs.YtiaebjpcgjkhoaaGreatDoor
open Go.RowKit
def leS (x y:VV):Prop:=∀ (w:World) (E:AR) (m:Option Phi) (v:Value),(∀ k,E.br k->E.fz k)->V w E m x v->V w E m y v
theorem C1 (x:VV):leS x x:=fun _ _ _ _ _ h=>h
theorem My {n sz:Nat} {f:Nat->List VV}:leS (.sl true n sz f) (.sl false n sz f):=by
 intro w E m v hE h
 obtain ⟨a,cap,rfl,h1,h2,h3⟩:=V.sl_inv h
 refine V.sl_mk h1 h2 fun hp=>?_
 obtain ⟨b,off,rfl,hb,hn,hl,u,hc,hv⟩:=h3 hp
 exact ⟨b,off,rfl,hb,fun hbr=>hn (hE b hbr),hl,u,hc,fun i j x hi hx=>(hv i j x hi hx).less (fun _ h=>h) fun _ _=>trivial⟩
theorem Ai.frz {P:Program} {f:FuncId} {hs hs':List Ob} {xs ys:List VV} {r:VV} (h:Ai P f hs xs hs' r) (hl:ys.length=xs.length) (hle:∀ (j:Nat) x y,xs[j]?=some x->ys[j]?=some y->leS y x):Ai P f hs ys hs' r:=by
 refine ⟨h.callable,fun w E φ vs hz hH hφ hs0=>h.call w E φ vs hz hH hφ ⟨hs0.1.trans hl,fun j x hx=>?_⟩⟩
 have hj:j<ys.length:=by rw [hl];exact (List.getElem?_eq_some_iff.1 hx).1
 exact hle j x _ hx (List.getElem?_eq_getElem hj) _ _ _ _ (fun k hk=>hk.imp (hH.sub k) fun h=>h) (hs0.2 j _ (List.getElem?_eq_getElem hj))
theorem ieq (a b:Int):(a==b)=decide (a=b):=by rw [Bool.eq_iff_iff,beq_iff_eq,decide_eq_true_eq]
theorem AM (a b:Bool):(bif a then b else false)=(a&&b):=by cases a<;>rfl
theorem Bd (a b:Bool):(bif a then true else b)=(a||b):=by cases a<;>rfl
theorem nge (n k:Nat):decide ((n:Int)>=k)=decide (k<=n):=by rw [Bool.eq_iff_iff,decide_eq_true_eq,decide_eq_true_eq];omega
theorem nle (n k:Nat):decide ((n:Int)<=k)=decide (n<=k):=by rw [Bool.eq_iff_iff,decide_eq_true_eq,decide_eq_true_eq];omega
theorem ge1 (n:Nat):decide ((n:Int)>=1)=decide (1<=n):=nge n 1
theorem le8 (n:Nat):decide ((n:Int)<=8)=decide (n<=8):=nle n 8
theorem Afu (n:Nat):decide ((n:Int)<=256)=decide (n<=256):=nle n 256
theorem AeO (n:Nat):decide ((n:Int)=0)=decide (n=0):=by rw [Bool.eq_iff_iff,decide_eq_true_eq,decide_eq_true_eq];omega
structure MT (s:D.Stmt):Prop where
 a:s.Args.length<=1048576
 m:s.Match.length<=1048576
theorem OD {m:D.Model} {s:D.Stmt} (hs:MT s):Ai Tryz.prog 162 [] [tpM m,.agg (Ap s)] [] (Ac (Aq m s)):=by
 have ha:=hs.a
 have hb:=hs.m
 have em:∀ u v x:Bool,Ai Tryz.prog 173 [] [.agg (Ap s),Ac u,Ac v,Ac x] [] (Ac (C6 s u v x)):=fun u v x=>Xx ha hb
 have n1:∀ x:Bool,(bif x then s.B==(-1:Int) else false)=(x&&decide (s.B=-1)):=fun x=>by rw [ieq,AM]
 have hkn:∀ {k:Int},(s.Kind==k)=true->s.Kind=k:=fun h=>by simpa using h
 have hkf:∀ {k:Int},(s.Kind==k)=false->s.Kind≠k:=fun h=>by simpa using h
 refine Ag Ak Aj Tryz.func162 (by kernel_rfl) rfl (PR _ m s) ?_
 have t13:s.Kind=1∨s.Kind=3->Aq m s=(CG m s.A&&decide (s.B=-1)&&C6 s true true true):=fun h=>by unfold Aq;rw [if_pos h]
 have t2:s.Kind=2->Aq m s=(Bn m s.A&&CG m s.B&&C6 s true true true):=fun h=>by unfold Aq;rw [if_neg (by omega),if_pos h]
 have t4:s.Kind=4->Aq m s=(decide (s.A=-1)&&decide (s.B=-1)&&BL m.Exprs.length s.Args&&decide (s.Match.length=0)&&decide (s.Text.size<=256)&&decide (s.N=0)):=fun h=>by unfold Aq;rw [if_neg (by omega),if_neg (by omega),if_pos h]
 have t5:s.Kind=5->Aq m s=(CG m s.A&&decide (s.B=-1)&&decide (1<=s.Args.length)&&decide (s.Args.length<=8)&&BL m.Exprs.length s.Args&&decide (s.Match.length=0)&&(decide (s.N=0)||decide (s.N=1))&&decide (s.Text.size=0)):=fun h=>by unfold Aq;rw [if_neg (by omega),if_neg (by omega),if_neg (by omega),if_pos h]
 have t6:s.Kind=6->Aq m s=(CG m s.A&&decide (s.B=-1)&&Ft m s&&decide (0<=s.N)&&decide (s.N<=3)&&decide (s.Text.size=0)):=fun h=>by unfold Aq;rw [if_neg (by omega),if_neg (by omega),if_neg (by omega),if_neg (by omega),if_pos h]
 have t7:s.Kind=7∨s.Kind=8->Aq m s=(decide (s.A=-1)&&decide (s.B=-1)&&C6 s true true true):=fun h=>by unfold Aq;rw [if_neg (by omega),if_neg (by omega),if_neg (by omega),if_neg (by omega),if_neg (by omega),if_pos h]
 have t9:s.Kind=9->Aq m s=(Bn m s.A&&decide (s.B=-1)&&decide (0<=s.N)&&decide (s.N<m.Shapes.length)&&C6 s true false true):=fun h=>by unfold Aq;rw [if_neg (by omega),if_neg (by omega),if_neg (by omega),if_neg (by omega),if_neg (by omega),if_neg (by omega),if_pos h]
 have tx:¬(s.Kind=1∨s.Kind=3)->s.Kind≠2->s.Kind≠4->s.Kind≠5->s.Kind≠6->¬(s.Kind=7∨s.Kind=8)->s.Kind≠9->Aq m s=false:=fun h1 h2 h3 h4 h5 h6 h7=>by unfold Aq;rw [if_neg h1,if_neg h2,if_neg h3,if_neg h4,if_neg h5,if_neg h6,if_neg h7]
 generalize Aq m s=b at t13 t2 t4 t5 t6 t7 t9 tx ⊢
 exact ⟨fun h1=>⟨fun _=>⟨_,EQ m s.A,_,fun _=>em true true true,Ao (by rw [t13 (.inl (hkn h1)),n1,AM])⟩,fun h=>bt h1 h⟩,fun h1=>⟨fun h3=>⟨_,EQ m s.A,_,fun _=>em true true true,Ao (by rw [t13 (.inr (hkn h3)),n1,AM])⟩,fun h3=>⟨fun h2=>⟨_,IH m s.A,_,fun _=>EQ m s.B,_,fun _=>em true true true,Ao (by rw [t2 (hkn h2),AM,AM])⟩,fun h2=>⟨fun h4=>⟨_,fun _=>EX (by omega),Ao (by rw [t4 (hkn h4)];simp only [ieq,AM,AeO,Afu])⟩,fun h4=>⟨fun h5=>⟨_,EQ m s.A,_,fun _=>EX (by omega),Ao (by rw [t5 (hkn h5)];simp only [ieq,AM,Bd,AeO,Lf,le8,ge1])⟩,fun h5=>⟨fun h6=>⟨_,EQ m s.A,_,fun _=>VP ha hb,Ao (by rw [t6 (hkn h6)];simp only [ieq,AM,Lf,ge_iff_le])⟩,fun h6=>⟨fun h7=>⟨fun _=>⟨_,fun _=>em true true true,Ao (by rw [t7 (.inl (hkn h7))];simp only [ieq,AM])⟩,fun h=>bt h7 h⟩,fun h7=>⟨fun h8=>⟨_,fun _=>em true true true,Ao (by rw [t7 (.inr (hkn h8))];simp only [ieq,AM])⟩,fun h8=>⟨fun h9=>⟨_,IH m s.A,_,fun _=>em true false true,Ao (by rw [t9 (hkn h9)];simp only [ieq,AM,ge_iff_le])⟩,fun h9=>Ao (tx (fun h=>h.elim (hkf h1) (hkf h3)) (hkf h2) (hkf h4) (hkf h5) (hkf h6) (fun h=>h.elim (hkf h7) (hkf h8)) (hkf h9)).symm⟩⟩⟩⟩⟩⟩⟩⟩⟩
theorem Hh {x:D.Expr} (h1:x.Args.length<=1048576) (h2:x.V.Dims.length<=1048576):Ai Tryz.prog 133 [] [.agg (Az x)] [] (Ad true (Bi x)):=by
 have hp3:=O6 x.Op
 have hP:([x.A,x.B,x.C].take (AH x.Op)).length=AH x.Op:=by simp;omega
 have hrow:∀ i,i<([x.A,x.B,x.C].take (AH x.Op)).length->List.take 1 (List.drop (i*1) [VV.sc (.int .i64 x.A),.sc (.int .i64 x.B),.sc (.int .i64 x.C)])=[Aa (([x.A,x.B,x.C].take (AH x.Op)).getD i 0)]:=by
  intro i hi
  rw [hP] at hi
  have:([x.A,x.B,x.C].take (AH x.Op)).getD i 0=[x.A,x.B,x.C].getD i 0:=by simp only [List.getD_eq_getElem?_getD,List.getElem?_take,hi,if_true]
  rw [this]
  rcases (show i=0∨i=1∨i=2 by omega) with rfl | rfl | rfl<;>rfl
 have hto:((AH x.Op:Nat):Int).toNat=AH x.Op:=by omega
 have loop:∀ (L:List Int),L.length<=2097152->L++x.V.Dims.map D.Dim.I=Bi x->AA (BP Tryz.prog tb Be GB true Tryz.f133 [] (Ad true (Bi x))) [1,1,1,0,1,0,1,1,0] (V3 x L 0):=by
  intro L hL hR
  generalize Bi x=R at hR ⊢
  refine AD Ak Aj x.V.Dims.length (fun k=>V3 x (L++(x.V.Dims.take k).map D.Dim.I) k) (fun _=>True) (by kernel_rfl) (by kernel_rfl) trivial ?_ |> fun h=>by simpa using h
  intro k hk _ J next
  have hlen:(L++(x.V.Dims.take k).map D.Dim.I).length=L.length+k:=by simp;omega
  refine Bb.raw (Aa8 _ x _ k J) ⟨fun hlt=>?_,fun hge=>⟨trivial,?_⟩⟩
  ·have hlt':k<x.V.Dims.length:=by have:=AQ hlt;omega
   have hto:(k:Int).toNat=k:=by omega
   rw [hto]
   refine ⟨⟨by omega,by omega⟩,by rw [hlen];omega,next _ hlt' trivial ?_⟩
   have hpush:(x.V.Dims.take (k+1)).map D.Dim.I=(x.V.Dims.take k).map D.Dim.I++[(x.V.Dims.getD k default).I]:=by rw [Ec (d:=default) hlt'];simp
   have e:L++(x.V.Dims.take (k+1)).map D.Dim.I=(L++(x.V.Dims.take k).map D.Dim.I)++[(x.V.Dims.getD k default).I]:=by rw [hpush,List.append_assoc]
   rw [e,Am (by omega)]
   generalize L++(x.V.Dims.take k).map D.Dim.I=M
   generalize (x.V.Dims.getD k default).I=z
   refine Up.mk (l':=[(3,.ow 0 0 (M++[z]).length),(45,C2 true x.V.Dims),(46,Aa x.V.Dims.length),(47,Aa ((k+1:Nat):Int))]) (hs':=[.arr true 0 (M++[z]).length 1 (AG (M++[z]))]) ?_ ?_ rfl
   ·rw [show M.length+1=(M++[z]).length by simp];exact AY _
   ·rw [show M.length+1=(M++[z]).length by simp]
    exact ⟨Ob.le_arr fun i hi=>A2 (Ca (f:=fun n=>[Aa n]) (d:=0) (l:=M) (r:=[z]) (F:=fun i=>[.sc (.int .i64 (M.getD i 0))]) (fun i hi=>rfl) Er hi),trivial⟩
  ·have hge':x.V.Dims.length<=k:=by have:=AT hge;omega
   rw [List.take_of_length_le hge',hR]
   exact VV.le_refl _
 refine Ag Ak Aj Tryz.func133 (by kernel_rfl) rfl (Ado _ x) ⟨(AH x.Op:Nat),D5 _,?_⟩
 rw [hto]
 have hpp:AH x.Op=([x.A,x.B,x.C].take (AH x.Op)).length:=hP.symm
 generalize hLp:[x.A,x.B,x.C].take (AH x.Op)=P at hrow hpp loop
 have hheld:Bi x=P++((if x.Op=30∨x.Op=39 then x.Args else [])++(if x.Op=2 then (if x.V.Scope=2 then [x.V.Who] else [])++x.V.Dims.map D.Dim.I else [])):=by unfold Bi;rw [hLp]
 generalize Bi x=R at hheld loop ⊢
 rw [hpp] at hp3 ⊢
 refine ⟨⟨by omega,by omega⟩,by omega,fun h=>⟨by omega,fun i hi=>rfl,fun k=>?_,fun k=>⟨trivial,?_⟩⟩,fun h=>⟨fun k=>⟨fun q=>⟨by omega,?_⟩,fun q=>?_⟩,fun k=>⟨trivial,?_⟩⟩⟩
 ·simp at h k;omega
 ·have e:R=P++x.Args:=by rw [hheld,if_pos (by simpa using h),if_neg (by simpa using k)];simp
  subst e
  rw [show P.length+x.Args.length=(P++x.Args).length by simp]
  exact VV.le_sl (.inl rfl) fun i hi=>A2 (Ca (f:=fun n=>[Aa n]) (d:=0) (l:=P) (r:=x.Args) (G:=fun j=>[.sc (.int .i64 (x.Args.getD j 0))]) hrow (fun i hi=>rfl) hi)
 ·have h':¬(x.Op=30∨x.Op=39):=by simpa using h
  have e:(P++[x.V.Who])++x.V.Dims.map D.Dim.I=R:=by rw [hheld,if_neg h',if_pos (by simpa using k),if_pos (by simpa using q)];simp
  refine AA.le (l':=[(3,.ow 0 0 (P++[x.V.Who]).length),(45,C2 true x.V.Dims),(46,Aa x.V.Dims.length),(47,Aa 0)]) (hs':=[.arr true 0 (P++[x.V.Who]).length 1 (AG (P++[x.V.Who]))]) ?_ ?_ (loop _ (by simp;omega) e)
  ·rw [show P.length+1=(P++[x.V.Who]).length by simp];exact AY _
  ·rw [show P.length+1=(P++[x.V.Who]).length by simp]
   exact ⟨Ob.le_arr fun i hi=>A2 (Ca (f:=fun n=>[Aa n]) (d:=0) (l:=P) (r:=[x.V.Who]) hrow Er hi),trivial⟩
 ·have h':¬(x.Op=30∨x.Op=39):=by simpa using h
  have e:P++x.V.Dims.map D.Dim.I=R:=by rw [hheld,if_neg h',if_pos (by simpa using k),if_neg (by simpa using q)];simp
  exact ZZ (G:=AG P) (fun i hi=>hrow i hi) (loop _ (by omega) e)
 ·have h':¬(x.Op=30∨x.Op=39):=by simpa using h
  have e:R=P:=by rw [hheld,if_neg h',if_neg (by simpa using k)];simp
  subst e
  exact VV.le_sl (.inl rfl) fun i hi=>A2 (hrow i hi)
end Go.Proofs.YtiaebjpcgjkhoaaGreatDoor
namespace Go.Proofs.YtiaebjpcgjkhoaaGreatDoor
open Go.RowKit
structure EJ (m:D.Model):Prop where
 wf:Ay m
 ex:∀ k:Nat,k<m.Exprs.length->Dd m k=true
def InE (m:D.Model) (l:List Int):Prop:=∀ x∈l,0<=x/\x<m.Exprs.length
theorem L3 {m:D.Model} {k:Int} (h0:0<=k) (h:k<m.Exprs.length):Ar m k∈m.Exprs:=Au (by omega)
theorem EJ.at {m:D.Model} (h:EJ m) {k:Int} (h0:0<=k) (hk:k<m.Exprs.length):Dd m k=true:=by
 have:=h.ex k.toNat (by omega)
 rwa [show ((k.toNat:Nat):Int)=k by omega] at this
theorem EJ.held {m:D.Model} (h:EJ m) {k:Int} (h0:0<=k) (hk:k<m.Exprs.length):InE m (Bi (Ar m k)):=fun x hx=>by
 have:=NS (h.at h0 hk) x hx;omega
theorem EJ.small {m:D.Model} (h:EJ m):∀ x∈m.Exprs,x.Args.length<=1048576/\x.V.Dims.length<=1048576:=fun x hx =>
 ⟨(h.wf.Exprs.2 x hx).Args.1,(h.wf.Exprs.2 x hx).V.Dims.1⟩
theorem EJ.slots {m:D.Model} (h:EJ m) {k:Int} (h0:0<=k) (hk:k<m.Exprs.length) (h2:(Ar m k).Op=2):(Ar m k).V.Scope≠0->(Ar m k).V.Scope≠1->0<=(Ar m k).V.Type_/\(Ar m k).V.Type_<m.Procs.length:=by
 have hx:=h.at h0 hk
 unfold Dd at hx
 simp only [Bool.and_eq_true] at hx
 obtain ⟨_,hO⟩:=hx
 generalize Ar m k=x at *
 rw [if_neg (by omega),if_pos h2] at hO
 simp only [Bool.and_eq_true,CM] at hO
 obtain ⟨⟨⟨⟨⟨⟨hs0,hs2⟩,_⟩,_⟩,_⟩,hW⟩,_⟩:=hO
 intro n0 n1
 have hs:x.V.Scope=2:=by simp at hs0 hs2;omega
 simp only [hs,decide_true,cond_true,Bool.and_eq_true] at hW
 have:=hW.2
 unfold BO at this
 simp at this;omega
structure Inv (m:D.Model) (i run:Int) (n:Nat) (b:Bool) (seen:List Bool) (todo:List Int) (k:Nat):Prop where
 sl:seen.length=m.Exprs.length
 le:k<=todo.length
 mem:InE m todo
 sum:todo.length+load m seen=n
 res:Om m i run (todo.length - k+load m seen+1) seen (todo.drop k)=b
section
variable {m : D.Model} {i run:Int} {n:Nat} {b:Bool} {seen:List Bool} {todo:List Int} {k:Nat}
theorem Inv.at (h:Inv m i run n b seen todo k) (hk:k<todo.length):0<=todo.getD k 0/\todo.getD k 0<m.Exprs.length:=h.mem _ (Au hk)
theorem Inv.step (h:Inv m i run n b seen todo k) (hk:k<todo.length) :
  (bif seen.getD (todo.getD k 0).toNat false then Om m i run (todo.length - (k+1)+load m seen+1) seen (todo.drop (k+1)) else bif Fs m i run (todo.getD k 0) then false
   else Om m i run (todo.length - (k+1)+load m seen+1) (seen.set (todo.getD k 0).toNat true) (todo.drop (k+1)++Bi (Ar m (todo.getD k 0))))=b:=by
 have:=h.res
 rw [B4 (d:=0) hk,show todo.length - k+load m seen+1=(todo.length - (k+1)+load m seen+1)+1 by omega] at this
 exact this
theorem Inv.had (h:Inv m i run n b seen todo k) (hk:k<todo.length) (hs:seen.getD (todo.getD k 0).toNat false=true):Inv m i run n b seen todo (k+1):=by
 have:=h.step hk
 rw [hs,cond_true] at this
 exact ⟨h.sl,hk,h.mem,h.sum,this⟩
theorem Inv.bad (h:Inv m i run n b seen todo k) (hk:k<todo.length) (hs:seen.getD (todo.getD k 0).toNat false=false) (hu:Fs m i run (todo.getD k 0)=true):false=b:=by
 have:=h.step hk
 rw [hs,cond_false,hu,cond_true] at this
 exact this
theorem Inv.more (hr:EJ m) (h:Inv m i run n b seen todo k) (hk:k<todo.length) (hs:seen.getD (todo.getD k 0).toNat false=false) (hu:Fs m i run (todo.getD k 0)=false) :
  Inv m i run n b (seen.set (todo.getD k 0).toNat true) (todo++Bi (Ar m (todo.getD k 0))) (k+1):=by
 have ht:=h.at hk
 have hl:=Adc (m:=m) hs (by rw [h.sl];omega) h.sl
 have:=h.step hk
 rw [hs,cond_false,hu,cond_false] at this
 have hsum:=h.sum
 have hx:m.Exprs.getD (todo.getD k 0).toNat default=Ar m (todo.getD k 0):=rfl
 rw [hx] at hl
 refine ⟨by simp [h.sl],by simp;omega,fun x hxm=>?_,by rw [List.length_append];omega,?_⟩
 ·rcases List.mem_append.1 hxm with hxm | hxm
  ·exact h.mem x hxm
  ·exact hr.held ht.1 ht.2 x hxm
 ·rw [List.drop_append_of_le_length hk,List.length_append]
  rw [show todo.length+(Bi (Ar m (todo.getD k 0))).length - (k+1)+load m (seen.set (todo.getD k 0).toNat true)+1=todo.length - (k+1)+load m seen+1 by omega]
  exact this
end
theorem Qn (m:D.Model) (i run k:Int):Fs m i run k=((bif bif (Ar m k).Op==39 then k != run else false then true else bif i==m.Claim then bif bif (Ar m k).Op==31 then true else (Ar m k).Op==39 then true else bif (Ar m k).Op==2 then (Ar m k).V.Scope==1 else false else false) ||
  ((Ar m k).Op==2&&decide (En m i (Ar m k).V<CK (Ar m k).V))):=by
 unfold Fs
 simp only [ieq,AM,Bd,bne,Bool.or_assoc,decide_not]
theorem NJ {l:List Bool} {t j:Nat} (hj:j<l.length):(bif j.beq t then [VV.sc (.bool true)] else [.sc (.bool (l.getD j false))])=[Ac ((l.set t true).getD j false)]:=by
 cases hq:j.beq t with
 | true =>
  have:=Nat.eq_of_beq_eq_true hq;subst this
  simp [List.getD,hj,Ac]
 | false =>
  have hne:t≠j:=by rintro rfl;simp at hq
  simp [List.getD,hne,Ac]
theorem SG {l r:List Int} {F:Nat->List VV} (hF:∀ i,i<l.length->F i=[Aa (l.getD i 0)]) {i:Nat} (hi:i<(l++r).length):(bif i.blt l.length then F i else (fun j=>[Aa (r.getD j 0)]) (i - l.length))=AG (l++r) i :=
 Ca (f:=fun n=>[Aa n]) (d:=0) (l:=l) (r:=r) (G:=fun j=>[Aa (r.getD j 0)]) hF (fun _ _=>rfl) hi
theorem Zr {m:D.Model} {i run:Int} {list:List Int} (hr:EJ m) (hi0:0<=i) (hi:i<m.Procs.length) (hin:InE m list) (hlen:list.length<=2097152) :
  Ai Tryz.prog 136 [] [tpM m,Aa i,Ad false list,Aa run] [] (Ac (IF m i list run)):=by
 have hN:=hr.wf.Exprs.1
 have hload:=AeR hr.small (AN m)
 have hmul:m.Exprs.length*2097156<=1048576*2097156:=Nat.mul_le_mul_right _ hN
 generalize hb:IF m i list run=b
 have inv0:Inv m i run (list.length+load m (AN m)) b (AN m) list 0:=⟨by simp [AN],Nat.zero_le _,hin,rfl,by rw [← hb]<;>rfl⟩
 generalize hn:list.length+load m (AN m)=n at inv0
 have hn2:n<=4398046511104:=by omega
 have small:∀ {t:Int},0<=t->t<m.Exprs.length->(Ar m t).Args.length<=1048576/\(Ar m t).V.Dims.length<=1048576:=fun h0 h1=>hr.small _ (L3 h0 h1)
 have wfv:∀ {t:Int},0<=t->t<m.Exprs.length->Hq (Ar m t).V:=fun h0 h1=>(hr.wf.Exprs.2 _ (L3 h0 h1)).V
 refine Ag Ak Aj Tryz.func136 (by kernel_rfl) rfl (Aca _ m i list run) ?_
 refine ZV Ak Aj 0 (fun g st=>∃ (seen:List Bool) (todo:List Int) (k:Nat),Inv m i run n b seen todo k/\g=todo.length - k+load m seen/\st=OH m i list run seen todo k) (by kernel_rfl) (by kernel_rfl) (by kernel_rfl) (by kernel_rfl) (Bb.raw (Zt _ m i list run _) ?_) fun g st h=>?_
 ·have hnn:((m.Exprs.length:Int).toNat)=m.Exprs.length:=by omega
  rw [hnn]
  have hto:Int.toNat 0=0:=rfl
  have hz:∀ j,j<m.Exprs.length->(AN m).getD j false=false:=fun j hj=>by simp [AN,List.getD,hj]
  have hsl:(AN m).length=m.Exprs.length:=by simp [AN]
  refine ⟨⟨by omega,by omega,by omega⟩,by omega,fun _ _=>rfl,fun h=>Ao ?_,fun h=>?_⟩
  ·have h0:list.length=0:=by simp at h;omega
   have:=inv0.res
   rw [List.eq_nil_of_length_eq_zero h0] at this
   rw [← this]<;>rfl
  ·have h0:0<list.length:=by simp at h;omega
   have ht:=inv0.at h0
   rw [hto]
   have hs:=hz (list.getD 0 0).toNat (by omega)
   have hbad:=Qn m i run (list.getD 0 0)
   have more:=fun hu=>inv0.more hr h0 hs hu
   have bad:=fun hu=>inv0.bad h0 hs hu
   have hsm:=small ht.1 ht.2
   have hwv:=wfv ht.1 ht.2
   have hsum:=inv0.sum
   have hsl2:=hr.slots ht.1 ht.2
   refine ⟨⟨by omega,by omega⟩,⟨by omega,by omega⟩,fun h=>(by cases h),fun _=>⟨⟨by omega,by omega⟩,⟨by omega,by omega⟩,fun hc=>Ao (bad (by rw [hbad,Bool.or_eq_true];exact .inl hc)),fun hc=>?_⟩⟩
   have fin:Fs m i run (list.getD 0 0)=false->(list.length+(Bi (Ar m (list.getD 0 0))).length)*8<=140737488355328/\∃ g,Up (fun st=>∃ (seen:List Bool) (todo:List Int) (k:Nat),Inv m i run n b seen todo k/\g=todo.length - k+load m seen/\st=OH m i list run seen todo k)
     (AB [(0,tpM m),(1,Aa i),(2,Ad false list),(3,Aa run),(9,.ow 0 0 m.Exprs.length),(10,.ow 1 0 (list.length+(Bi (Ar m (list.getD 0 0))).length)),(11,Aa (IntKind.i64.wrap (0+1)))]
      [.arr true 0 m.Exprs.length 1 (fun j=>bif j.beq (list.getD 0 0).toNat then [.sc (.bool true)] else [.sc (.bool false)]),.arr true 0 (list.length+(Bi (Ar m (list.getD 0 0))).length) 1 (fun j=>bif j.blt list.length then (fun j=>[Aa (list.getD j 0)]) j else (fun j=>[Aa ((Bi (Ar m (list.getD 0 0))).getD j 0)]) (j - list.length))]):=by
    intro hu
    have hm:=more hu
    have hm2:=hm.sum
    generalize Bi (Ar m (list.getD 0 0))=H at hm hm2 ⊢
    generalize (list.getD 0 0).toNat=t at hm hm2 ⊢
    rw [List.length_append] at hm2
    refine ⟨by omega,(list++H).length - (0+1)+load m ((AN m).set t true),?_⟩
    have hw1:IntKind.i64.wrap (0+1)=((1:Nat):Int):=rfl
    have hnl:m.Exprs.length=((AN m).set t true).length:=by simp [AN]
    refine Up.mk (l':=[(0,tpM m),(1,Aa i),(2,Ad false list),(3,Aa run),(9,.ow 0 0 ((AN m).set t true).length),(10,.ow 1 0 (list++H).length),(11,Aa ((1:Nat):Int))])
     (hs':=[.arr true 0 ((AN m).set t true).length 1 (Ep ((AN m).set t true)),.arr true 0 (list++H).length 1 (AG (list++H))]) ?_ ?_ ⟨_,_,_,hm,rfl,rfl⟩
    ·rw [hw1,← hnl,List.length_append];exact AY _
    ·rw [← hnl,← List.length_append]
     refine ⟨Ob.le_arr fun j hj=>A2 ?_,Ob.le_arr fun j hj=>A2 (SG (fun i hi=>rfl) hj),trivial⟩
     have:=NJ (l:=AN m) (t:=t) (j:=j) (by omega)
     rw [hz j hj] at this
     exact this
   refine ⟨fun h2=>⟨_,Gf hwv,_,ON (fun _=>⟨hi0,hi⟩) (hsl2 (eq_of_beq h2)),fun h3=>Ao (bad ?_),fun h3=>?_⟩,fun h2=>?_⟩
   ·rw [hbad,Bool.or_eq_true,Bool.and_eq_true];exact .inr ⟨h2,h3⟩
   ·have hu:Fs m i run (list.getD 0 0)=false:=by
     rw [hbad,Bool.or_eq_false_iff,Bool.and_eq_false_iff];exact ⟨hc,.inr h3⟩
    obtain ⟨f1,f2⟩:=fin hu
    exact ⟨Bi (Ar m (list.getD 0 0)),Hh hsm.1 hsm.2,f1,fun i hi=>rfl,f2⟩
   ·have hu:Fs m i run (list.getD 0 0)=false:=by
     rw [hbad,Bool.or_eq_false_iff,Bool.and_eq_false_iff];exact ⟨hc,.inl h2⟩
    obtain ⟨f1,f2⟩:=fin hu
    exact ⟨Bi (Ar m (list.getD 0 0)),Hh hsm.1 hsm.2,f1,fun i hi=>rfl,f2⟩
 ·obtain ⟨seen,todo,k,inv,rfl,rfl⟩:=h
  refine Bb.raw (Zs _ m i list run seen todo k _) ⟨fun h=>Ao ?_,fun h=>?_⟩
  ·have h0:k=todo.length:=by simp at h;omega
   have:=inv.res
   rw [List.drop_eq_nil_of_le (by omega)] at this
   rw [← this,Om]
  ·have hle:=inv.le
   have h0:k<todo.length:=by simp at h;omega
   have ht:=inv.at h0
   have hto:(k:Int).toNat=k:=by omega
   rw [hto]
   have hbad:=Qn m i run (todo.getD k 0)
   have hsm:=small ht.1 ht.2
   have hwv:=wfv ht.1 ht.2
   have hsum:=inv.sum
   have hsle:=inv.sl
   have hsl2:=hr.slots ht.1 ht.2
   refine ⟨⟨by omega,by omega⟩,⟨by omega,by omega⟩,fun hs=>?_,fun hs=>?_⟩
   ·have hh:=inv.had h0 hs
    refine ⟨todo.length - (k+1)+load m seen,by omega,Up.of ⟨seen,todo,k+1,hh,rfl,?_⟩⟩
    rw [Am (by omega)]<;>rfl
   have more:=fun hu=>inv.more hr h0 hs hu
   have bad:=fun hu=>inv.bad h0 hs hu
   refine ⟨⟨by omega,by omega⟩,⟨by omega,by omega⟩,fun hc=>Ao (bad (by rw [hbad,Bool.or_eq_true];exact .inl hc)),fun hc=>?_⟩
   have fin:Fs m i run (todo.getD k 0)=false->(todo.length+(Bi (Ar m (todo.getD k 0))).length)*8<=140737488355328/\∃ g',g'<todo.length - k+load m seen/\Up (fun st=>∃ (seen:List Bool) (todo:List Int) (k:Nat),Inv m i run n b seen todo k/\g'=todo.length - k+load m seen/\st=OH m i list run seen todo k)
     (AB [(0,tpM m),(1,Aa i),(2,Ad false list),(3,Aa run),(9,.ow 0 0 seen.length),(10,.ow 1 0 (todo.length+(Bi (Ar m (todo.getD k 0))).length)),(11,Aa (IntKind.i64.wrap (k+1)))]
      [.arr true 0 seen.length 1 (fun j=>bif j.beq (todo.getD k 0).toNat then [.sc (.bool true)] else [.sc (.bool (seen.getD j false))]),.arr true 0 (todo.length+(Bi (Ar m (todo.getD k 0))).length) 1 (fun j=>bif j.blt todo.length then AG todo j else (fun j=>[Aa ((Bi (Ar m (todo.getD k 0))).getD j 0)]) (j - todo.length))]):=by
    intro hu
    have hm:=more hu
    have hm2:=hm.sum
    generalize Bi (Ar m (todo.getD k 0))=H at hm hm2 ⊢
    generalize (todo.getD k 0).toNat=t at hm hm2 ⊢
    rw [List.length_append] at hm2
    refine ⟨by omega,(todo++H).length - (k+1)+load m (seen.set t true),by rw [List.length_append];omega,?_⟩
    have hnl:seen.length=(seen.set t true).length:=by simp
    refine Up.mk (l':=[(0,tpM m),(1,Aa i),(2,Ad false list),(3,Aa run),(9,.ow 0 0 (seen.set t true).length),(10,.ow 1 0 (todo++H).length),(11,Aa ((k+1:Nat):Int))])
     (hs':=[.arr true 0 (seen.set t true).length 1 (Ep (seen.set t true)),.arr true 0 (todo++H).length 1 (AG (todo++H))]) ?_ ?_ ⟨_,_,_,hm,rfl,rfl⟩
    ·rw [Am (by omega),← hnl,List.length_append];exact AY _
    ·rw [← hnl,← List.length_append]
     exact ⟨Ob.le_arr fun j hj=>A2 (NJ hj),Ob.le_arr fun j hj=>A2 (SG (fun i hi=>rfl) hj),trivial⟩
   refine ⟨fun h2=>⟨_,Gf hwv,_,ON (fun _=>⟨hi0,hi⟩) (hsl2 (eq_of_beq h2)),fun h3=>Ao (bad ?_),fun h3=>?_⟩,fun h2=>?_⟩
   ·rw [hbad,Bool.or_eq_true,Bool.and_eq_true];exact .inr ⟨h2,h3⟩
   ·have hu:Fs m i run (todo.getD k 0)=false:=by
     rw [hbad,Bool.or_eq_false_iff,Bool.and_eq_false_iff];exact ⟨hc,.inr h3⟩
    obtain ⟨f1,f2⟩:=fin hu
    exact ⟨Bi (Ar m (todo.getD k 0)),Hh hsm.1 hsm.2,f1,fun i hi=>rfl,f2⟩
   ·have hu:Fs m i run (todo.getD k 0)=false:=by
     rw [hbad,Bool.or_eq_false_iff,Bool.and_eq_false_iff];exact ⟨hc,.inl h2⟩
    obtain ⟨f1,f2⟩:=fin hu
    exact ⟨Bi (Ar m (todo.getD k 0)),Hh hsm.1 hsm.2,f1,fun i hi=>rfl,f2⟩
theorem XV {m:D.Model} {i run:Int} {list:List Int} {n:Nat} {F:Nat->List VV} (hr:EJ m) (hi0:0<=i) (hi:i<m.Procs.length) (hin:InE m list) (hlen:list.length<=2097152) (hn:n=list.length) (hF:∀ j,j<list.length->F j=[Aa (list.getD j 0)]) :
  Ai Tryz.prog 136 [] [tpM m,Aa i,.sl false n 1 F,Aa run] [] (Ac (IF m i list run)):=by
 subst hn
 exact (Zr hr hi0 hi hin hlen).le trivial ⟨VV.le_refl _,VV.le_refl _,VV.le_sl (.inl rfl) fun j hj=>A2 (hF j hj),VV.le_refl _,trivial⟩ trivial (VV.le_refl _)
def Bz (s:D.Stmt):List Int:=s.Args++((if 0<=s.A then [s.A] else [])++(if 0<=s.B then [s.B] else []))
theorem G8 {m:D.Model} {a:Int} (h:CG m a=true):0<=a/\a<m.Exprs.length:=Cz.1 h
theorem Oz {m:D.Model} {a:Int} (h:Bn m a=true):0<=a/\a<m.Exprs.length:=by
 unfold Bn at h
 simp only [Bool.and_eq_true] at h
 exact G8 h.1.1
theorem Ud {m:D.Model} {a:Int} {args mt:List Int} (h:Bt m a args mt=true):1<=args.length/\args.length<=8/\mt.length=args.length/\∀ x∈args,0<=x/\x<a:=by
 unfold Bt at h
 simp only [Bool.and_eq_true,decide_eq_true_eq] at h
 exact ⟨h.1.1.1.1,h.1.1.1.2,h.1.1.2,D7.1 h.1.2⟩
theorem X2 {m:D.Model} {s:D.Stmt} (h:Aq m s=true):InE m s.Args/\(0<=s.A->s.A<m.Exprs.length)/\(0<=s.B->s.B<m.Exprs.length):=by
 have none:∀ {n t:Bool},C6 s true n t=true->InE m s.Args:=fun he=>by
  unfold C6 at he
  simp only [Bool.and_eq_true,Bool.not_true,Bool.false_or,decide_eq_true_eq] at he
  have:s.Args=[]:=List.eq_nil_of_length_eq_zero (by omega)
  rw [this];intro x hx;cases hx
 unfold Aq at h
 split at h
 ·simp only [Bool.and_eq_true,decide_eq_true_eq] at h
  exact ⟨none h.2,fun _=>(G8 h.1.1).2,fun h0=>by omega⟩
 split at h
 ·simp only [Bool.and_eq_true] at h
  exact ⟨none h.2,fun _=>(Oz h.1.1).2,fun _=>(G8 h.1.2).2⟩
 split at h
 ·simp only [Bool.and_eq_true,decide_eq_true_eq] at h
  exact ⟨D7.1 h.1.1.1.2,fun h0=>by omega,fun h0=>by omega⟩
 split at h
 ·simp only [Bool.and_eq_true,decide_eq_true_eq] at h
  exact ⟨D7.1 h.1.1.1.2,fun _=>(G8 h.1.1.1.1.1.1.1).2,fun h0=>by omega⟩
 split at h
 ·simp only [Bool.and_eq_true,decide_eq_true_eq] at h
  have ht:=h.1.1.1.2
  unfold Ft at ht
  simp only [Bool.and_eq_true] at ht
  exact ⟨(Ud ht.1).2.2.2,fun _=>(G8 h.1.1.1.1.1).2,fun h0=>by omega⟩
 split at h
 ·simp only [Bool.and_eq_true,decide_eq_true_eq] at h
  exact ⟨none h.2,fun h0=>by omega,fun h0=>by omega⟩
 split at h
 ·simp only [Bool.and_eq_true,decide_eq_true_eq] at h
  exact ⟨none h.2,fun _=>(Oz h.1.1.1.1).2,fun h0=>by omega⟩
 ·cases h
theorem VF {m:D.Model} {s:D.Stmt} (h:Aq m s=true):InE m (Bz s):=by
 obtain ⟨h1,h2,h3⟩:=X2 h
 intro x hx
 unfold Bz at hx
 rcases List.mem_append.1 hx with hx | hx
 ·exact h1 x hx
 rcases List.mem_append.1 hx with hx | hx
 ·split at hx
  ·rename_i h0;obtain rfl:=List.mem_singleton.1 hx;exact ⟨h0,h2 h0⟩
  ·cases hx
 ·split at hx
  ·rename_i h0;obtain rfl:=List.mem_singleton.1 hx;exact ⟨h0,h3 h0⟩
  ·cases hx
theorem Ab0 {m:D.Model} {i:Int} {s:D.Stmt} (hr:EJ m) (hi0:0<=i) (hi:i<m.Procs.length) (hs:MT s):Ai Tryz.prog 135 [] [tpM m,Aa i,.agg (Ap s)] [] (Ac (Mi m i s)):=by
 have ha:=hs.a
 have hkn:∀ {k:Int},(s.Kind==k)=true->s.Kind=k:=fun h=>by simpa using h
 have hkf:∀ {k:Int},(s.Kind==k)=false->s.Kind≠k:=fun h=>by simpa using h
 have ec:(bif bif bif bif i==m.Claim then s.Kind != 1 else false then s.Kind != 3 else false then s.Kind != 7 else false then s.Kind != 8 else false)=(decide (i=m.Claim)&&(decide (s.Kind≠1)&&(decide (s.Kind≠3)&&(decide (s.Kind≠7)&&decide (s.Kind≠8))))):=by
  simp only [ieq,AM,bne,Bool.and_assoc,decide_not]
 refine Ag Ak Aj Tryz.func135 (by kernel_rfl) rfl (Aec _ m i s) ⟨Aq m s,OD hs,?_⟩
 rw [ec]
 have ew:Mi m i s=(Aq m s&&!(decide (i=m.Claim)&&(decide (s.Kind≠1)&&(decide (s.Kind≠3)&&(decide (s.Kind≠7)&&decide (s.Kind≠8)))))&&IF m i (Bz s) (if s.Kind=1 then s.A else if s.Kind=2 then s.B else -1)):=rfl
 generalize (decide (i=m.Claim)&&(decide (s.Kind≠1)&&(decide (s.Kind≠3)&&(decide (s.Kind≠7)&&decide (s.Kind≠8)))))=cl at ew ⊢
 refine ⟨fun h=>Ao ?_,fun h=>?_⟩
 ·rw [ew]
  cases hq:Aq m s
  ·rfl
  ·rw [hq] at h
   have:cl=true:=by simpa using h
   rw [this]<;>rfl
 ·have hq:Aq m s=true:=by
   cases hq:Aq m s with
   | true=>rfl
   | false=>rw [hq] at h;simp at h
  have hcl:cl=false:=by rw [hq] at h;simpa using h
  rw [hq,hcl] at ew
  simp only [Bool.not_false,Bool.true_and] at ew
  have hin:=VF hq
  have go:∀ (run:Int) (n:Nat) (F:Nat->List VV),n=(Bz s).length->(∀ j,j<(Bz s).length->F j=[Aa ((Bz s).getD j 0)])->Ai Tryz.prog 136 [] [tpM m,Aa i,.sl false n 1 F,Aa run] [] (Ac (IF m i (Bz s) run)):=fun run n F hn hF =>
   XV hr hi0 hi hin (by unfold Bz;simp only [List.length_append];split<;>split<;>simp<;>omega) hn hF
  have r1:s.Kind=1->Mi m i s=IF m i (Bz s) s.A:=fun h=>by rw [ew,if_pos h]
  have r2:s.Kind≠1->s.Kind=2->Mi m i s=IF m i (Bz s) s.B:=fun h h'=>by rw [ew,if_neg h,if_pos h']
  have r3:s.Kind≠1->s.Kind≠2->Mi m i s=IF m i (Bz s) (-1):=fun h h'=>by rw [ew,if_neg h,if_neg h']
  generalize Mi m i s=b at r1 r2 r3 ⊢
  refine ⟨by omega,fun _ _=>rfl,fun hA=>⟨by omega,fun hB=>⟨by omega,?_⟩,fun hB=>?_⟩,fun hA=>⟨fun hB=>⟨by omega,?_⟩,fun hB=>?_⟩⟩
  ·have hL:Bz s=(s.Args++[s.A])++[s.B]:=by unfold Bz;rw [if_pos (by simpa using hA),if_pos (by simpa using hB),List.append_assoc]
   have c1:s.Args.length+1+1=(Bz s).length:=by rw [hL];simp
   have e1:s.Args.length+1=(s.Args++[s.A]).length:=by simp
   have c2:∀ j,j<(Bz s).length->(bif Nat.blt j (s.Args.length+1) then (fun j=>bif Nat.blt j s.Args.length then [VV.sc (.int .i64 (s.Args.getD j 0))] else (fun i=>List.take 1 (List.drop (i*1) [VV.sc (.int .i64 s.A)])) (j - s.Args.length)) j else (fun i=>List.take 1 (List.drop (i*1) [VV.sc (.int .i64 s.B)])) (j - (s.Args.length+1)))=[Aa ((Bz s).getD j 0)]:=by
    rw [hL,e1]
    exact fun j hj=>Ca (f:=fun n=>[Aa n]) (d:=0) (l:=s.Args++[s.A]) (r:=[s.B]) (F:=fun j=>bif Nat.blt j s.Args.length then [VV.sc (.int .i64 (s.Args.getD j 0))] else (fun i=>List.take 1 (List.drop (i*1) [VV.sc (.int .i64 s.A)])) (j - s.Args.length)) (fun i hi=>Ca (f:=fun n=>[Aa n]) (d:=0) (l:=s.Args) (r:=[s.A]) (F:=fun j=>[.sc (.int .i64 (s.Args.getD j 0))]) (fun i hi=>rfl) Er hi) Er hj
   exact ⟨fun k1=>⟨_,go _ _ _ c1 c2,Ao (r1 (hkn k1)).symm⟩,fun k1=>⟨fun k2=>⟨_,go _ _ _ c1 c2,Ao (r2 (hkf k1) (hkn k2)).symm⟩,fun k2=>⟨_,go _ _ _ c1 c2,Ao (r3 (hkf k1) (hkf k2)).symm⟩⟩⟩
  ·have hL:Bz s=s.Args++[s.A]:=by unfold Bz;rw [if_pos (by simpa using hA),if_neg (by simpa using hB),List.append_nil]
   have c1:s.Args.length+1=(Bz s).length:=by rw [hL];simp
   have c2:∀ j,j<(Bz s).length->(bif Nat.blt j s.Args.length then [VV.sc (.int .i64 (s.Args.getD j 0))] else (fun i=>List.take 1 (List.drop (i*1) [VV.sc (.int .i64 s.A)])) (j - s.Args.length))=[Aa ((Bz s).getD j 0)]:=by
    rw [hL]
    exact fun j hj=>Ca (f:=fun n=>[Aa n]) (d:=0) (l:=s.Args) (r:=[s.A]) (F:=fun j=>[.sc (.int .i64 (s.Args.getD j 0))]) (fun i hi=>rfl) Er hj
   exact ⟨fun k1=>⟨_,go _ _ _ c1 c2,Ao (r1 (hkn k1)).symm⟩,fun k1=>⟨fun k2=>⟨_,go _ _ _ c1 c2,Ao (r2 (hkf k1) (hkn k2)).symm⟩,fun k2=>⟨_,go _ _ _ c1 c2,Ao (r3 (hkf k1) (hkf k2)).symm⟩⟩⟩
  ·have hL:Bz s=s.Args++[s.B]:=by unfold Bz;rw [if_neg (by simpa using hA),if_pos (by simpa using hB),List.nil_append]
   have c1:s.Args.length+1=(Bz s).length:=by rw [hL];simp
   have c2:∀ j,j<(Bz s).length->(bif Nat.blt j s.Args.length then [VV.sc (.int .i64 (s.Args.getD j 0))] else (fun i=>List.take 1 (List.drop (i*1) [VV.sc (.int .i64 s.B)])) (j - s.Args.length))=[Aa ((Bz s).getD j 0)]:=by
    rw [hL]
    exact fun j hj=>Ca (f:=fun n=>[Aa n]) (d:=0) (l:=s.Args) (r:=[s.B]) (F:=fun j=>[.sc (.int .i64 (s.Args.getD j 0))]) (fun i hi=>rfl) Er hj
   exact ⟨fun k1=>⟨_,go _ _ _ c1 c2,Ao (r1 (hkn k1)).symm⟩,fun k1=>⟨fun k2=>⟨_,go _ _ _ c1 c2,Ao (r2 (hkf k1) (hkn k2)).symm⟩,fun k2=>⟨_,go _ _ _ c1 c2,Ao (r3 (hkf k1) (hkf k2)).symm⟩⟩⟩
  ·have hL:Bz s=s.Args:=by unfold Bz;rw [if_neg (by simpa using hA),if_neg (by simpa using hB),List.append_nil,List.append_nil]
   have c1:s.Args.length=(Bz s).length:=by rw [hL]
   have c2:∀ j,j<(Bz s).length->[Aa (s.Args.getD j 0)]=[Aa ((Bz s).getD j 0)]:=by rw [hL];exact fun _ _=>rfl
   exact ⟨fun k1=>⟨_,go _ _ _ c1 c2,Ao (r1 (hkn k1)).symm⟩,fun k1=>⟨fun k2=>⟨_,go _ _ _ c1 c2,Ao (r2 (hkf k1) (hkn k2)).symm⟩,fun k2=>⟨_,go _ _ _ c1 c2,Ao (r3 (hkf k1) (hkf k2)).symm⟩⟩⟩
end Go.Proofs.YtiaebjpcgjkhoaaGreatDoor
namespace Go.Proofs.YtiaebjpcgjkhoaaGreatDoor
open Go.RowKit
theorem AbU {t:D.Trans} (h:K3 t):MT t.S:=⟨h.S.Args.1,h.S.Match.1⟩
theorem Aeb {l:D.Loc} (h:Rn l):(BA l).length<=1048577/\∀ w∈BA l,Jp w:=by
 refine ⟨by have:=h.Esc.1;simp [BA];omega,fun w hw=>?_⟩
 rcases List.mem_cons.1 hw with rfl | hw
 ·exact h.Out
 ·exact h.Esc.2 w hw
theorem Aaz {m:D.Model} {i:Int} (hr:EJ m) (hi0:0<=i) (hi:i<m.Procs.length) (hpv:(m.Procs.getD i.toNat default).Provided<m.Exprs.length) :
  Ai Tryz.prog 106 [] [tpM m,Aa i] [] (Ac (Dt m i)):=by
 have hw:=hr.wf.Procs.2 _ (Au (d:=default) (show i.toNat<m.Procs.length by omega))
 refine Ag Ak Aj Tryz.func106 (by kernel_rfl) rfl (AcV _ m i) ⟨⟨hi0,hi⟩,?_⟩
 generalize hb:Dt m i=b
 unfold Dt at hb
 simp only at hb
 generalize m.Procs.getD i.toNat default=p at hw hpv hb ⊢
 have hl:=hw.Locs.1
 have bad:∀ k,k<p.Locs.length->Se m i (p.Locs.getD k default)=false->false=b:=fun k hk hf=>by
  rw [Bo (f:=fun k=>Se m i (p.Locs.getD k default)) hk hf] at hb
  simpa using hb
 refine AD Ak Aj p.Locs.length (fun k=>Lt m i p k) (fun k=>∀ j,j<k->Se m i (p.Locs.getD j default)=true) (by kernel_rfl) (by kernel_rfl) (fun i hi=>by omega) ?_
 intro k hk hI J next
 refine Bb.raw (AaC _ m i p k J) ⟨fun hlt=>?_,fun hge=>⟨IF m i [p.Provided] (-1),fun hy=>?_,Ao ?_⟩⟩
 ·have hlt':k<p.Locs.length:=by have:=AQ hlt;omega
  have hto:(k:Int).toNat=k:=by omega
  rw [hto]
  have hwl:=hw.Locs.2 _ (Au (d:=default) hlt')
  have bad':=bad k hlt'
  have next':∀ st',Se m i (p.Locs.getD k default)=true->Up (fun s=>s=Lt m i p ((k+1:Nat):Int)) st'->J st':=fun st' h hu=>next st' hlt' (fun j hj=>by
   rcases Nat.lt_succ_iff_lt_or_eq.1 hj with h' | rfl
   ·exact hI j h'
   ·exact h) hu
  generalize p.Locs.getD k default=l at hwl bad' next' ⊢
  obtain ⟨hws,hwe⟩:=Aeb hwl
  refine ⟨⟨by omega,by omega⟩,BA l,Qg hwl.Esc.1,?_⟩
  unfold Se at bad' next'
  generalize BA l=ws at hws hwe bad' next' ⊢
  refine AD Ak Aj ws.length (fun j=>Ls m i p k ws j) (fun j=>∀ x,x<j->Kq m i (ws.getD x [])=true) (by kernel_rfl) (by kernel_rfl) (fun i hi=>by omega) ?_
  intro j hj hI2 J2 next2
  refine Bb.raw (AaB _ m i p k ws j J J2) ⟨fun hlt2=>?_,fun hge2=>?_⟩
  ·have hlt2':j<ws.length:=by have:=AQ hlt2;omega
   have hto2:(j:Int).toNat=j:=by omega
   rw [hto2]
   have hwle:=hwe _ (Au (d:=[]) hlt2')
   have bad2:Kq m i (ws.getD j [])=false->false=b:=fun hf=>bad' (Bo (f:=fun x=>Kq m i (ws.getD x [])) hlt2' hf)
   have next2':∀ st',Kq m i (ws.getD j [])=true->Up (fun s=>s=Ls m i p k ws ((j+1:Nat):Int)) st'->J2 st':=fun st' h hu=>next2 st' hlt2' (fun x hx=>by
    rcases Nat.lt_succ_iff_lt_or_eq.1 hx with h' | rfl
    ·exact hI2 x h'
    ·exact h) hu
   generalize ws.getD j []=w at hwle bad2 next2' ⊢
   have hwl1:=hwle.1
   refine ⟨⟨by omega,by omega⟩,?_⟩
   refine AD Ak Aj w.length (fun h=>NE m i p k ws j w h) (fun h=>∀ x,x<h->Mi m i (w.getD x default).S=true) (by kernel_rfl) (by kernel_rfl) (fun i hi=>by omega) ?_
   intro h hh hI3 J3 next3
   refine Bb.raw (AaA _ m i p k ws j w h J J2 J3) ⟨fun hlt3=>?_,fun hge3=>?_⟩
   ·have hlt3':h<w.length:=by have:=AQ hlt3;omega
    have hto3:(h:Int).toNat=h:=by omega
    rw [hto3]
    have hst:=AbU (hwle.2 _ (Au (d:=default) hlt3'))
    refine ⟨⟨by omega,by omega⟩,Mi m i (w.getD h default).S,Ab0 hr hi0 hi hst,fun hy=>Ao ?_,fun hy=>next3 _ hlt3' (fun x hx=>?_) (Up.of ?_)⟩
    ·exact bad2 (Bo (f:=fun x=>Mi m i (w.getD x default).S) hlt3' (by simpa using hy))
    ·rcases Nat.lt_succ_iff_lt_or_eq.1 hx with h' | rfl
     ·exact hI3 x h'
     ·simpa using hy
    ·rw [Am (by omega)]<;>rfl
   ·have hge3':w.length<=h:=by have:=AT hge3;omega
    refine next2' _ (AL.2 fun x hx=>hI3 x (by omega)) (Up.of ?_)
    rw [Am (by omega)]<;>rfl
  ·have hge2':ws.length<=j:=by have:=AT hge2;omega
   refine next' _ (AL.2 fun x hx=>hI2 x (by omega)) (Up.of ?_)
   rw [Am (by omega)]<;>rfl
 ·have h0:0<=p.Provided:=by simp at hy;omega
  refine Ai.frz (XV (list:=[p.Provided]) (n:=1) hr hi0 hi (fun x hx=>?_) (by simp) rfl Er) rfl ?_
  ·obtain rfl:=List.mem_singleton.1 hx;exact ⟨h0,hpv⟩
  ·intro j x y hx hy
   match j with
   | 0=>simp at hx hy;subst hx hy;exact C1 _
   | 1=>simp at hx hy;subst hx hy;exact C1 _
   | 2=>simp only [List.getElem?_cons_succ,List.getElem?_cons_zero,Option.some.injEq] at hx hy;subst hx hy;exact My
   | 3=>simp at hx hy;subst hx hy;exact C1 _
   | j+4=>simp at hx
 ·have hge':p.Locs.length<=k:=by have:=AT hge;omega
  rw [← hb,(AL (n:=p.Locs.length) (f:=fun k=>Se m i (p.Locs.getD k default))).2 fun j hj=>hI j (by omega),Bool.true_and,Bd]
theorem Q4 {m:D.Model}:∀ (g i:Nat) (had:List Bool),g+i=m.Exprs.length->EV m g i had<0->∀ j,i<=j->j<m.Exprs.length->Dd m j=true
 | 0,i,had,h,_,j,h1,h2=>by omega
 | g+1,i,had,h,hn,j,h1,h2=>by
  unfold EV at hn
  cases he:Dd m i with
  | false=>rw [he,cond_false] at hn;omega
  | true =>
   rw [he,cond_true] at hn
   split at hn
   ·rename_i had' _
    by_cases hij:i=j
    ·subst hij;exact he
    ·exact Q4 g (i+1) had' (by omega) hn j (by omega) h2
   ·omega
theorem UE {m:D.Model} (h:FD m<0):∀ k:Nat,k<m.Exprs.length->Dd m k=true:=fun k hk=>Q4 _ 0 _ rfl h k (Nat.zero_le _) hk
theorem Jc {n:Nat} {f:Nat->Bool} (h:Ih n f<0):∀ i,i<n->f i=true:=by
 rcases Py (n:=n) (f:=f) with ⟨_,h2⟩ | ⟨k,_,h2,_⟩
 ·exact h2
 ·omega
theorem Afe {n:Nat} {f:Nat->Bool}:-1<=Ih n f:=by
 rcases Py (n:=n) (f:=f) with ⟨h1,_⟩ | ⟨k,_,h2,_⟩<;>omega
theorem ngt (n k:Nat):decide ((n:Int) > k)=decide (k<n):=by rw [Bool.eq_iff_iff,decide_eq_true_eq,decide_eq_true_eq];omega
theorem Td {m:D.Model} (hw:Ay m):Ai Tryz.prog 102 [] [tpM m] [] (.tup [Aa (Br m).1,Aa (Br m).2]):=by
 have hG:=hw.Globals.1
 have hS:=hw.Shapes.1
 have hC:=hw.Chans.1
 have hE:=hw.Exprs.1
 refine Ag Ak Aj Tryz.func102 (by kernel_rfl) rfl (VS _ _ m) ?_
 have t1:(bif decide ((m.Globals.length:Int) > 128) then true else (m.Init.length:Int) != (m.Globals.length:Int))=(decide (128<m.Globals.length)||!decide (m.Init.length=m.Globals.length)):=by rw [Bool.eq_iff_iff];simp;omega
 have t2:(bif decide ((m.Shapes.length:Int) > 32) then true else decide ((m.Chans.length:Int) > 32))=(decide (32<m.Shapes.length)||decide (32<m.Chans.length)):=by rw [Bool.eq_iff_iff];simp;omega
 have t3:(bif bif bif bif decide ((m.Procs.length:Int)<1) then true else decide ((m.Procs.length:Int) > 16) then true else decide (m.Claim<(-1:Int)) then true else decide (m.Claim>=(m.Procs.length:Int)) then true else decide ((m.Exprs.length:Int) > 4096)) =
   (decide (m.Procs.length<1)||(decide (16<m.Procs.length)||(decide (m.Claim < -1)||(decide ((m.Procs.length:Int)<=m.Claim)||decide (4096<m.Exprs.length))))):=by
  have u1:decide ((m.Procs.length:Int)<1)=decide (m.Procs.length<1):=by rw [Bool.eq_iff_iff,decide_eq_true_eq,decide_eq_true_eq];omega
  have u2:decide ((m.Procs.length:Int) > 16)=decide (16<m.Procs.length):=ngt _ 16
  have u3:decide ((m.Exprs.length:Int) > 4096)=decide (4096<m.Exprs.length):=ngt _ 4096
  rw [u1,u2,u3];simp only [Bd,Bool.or_assoc]
 rw [t1,t2]
 generalize hR:Br m=R
 unfold Br at hR
 refine ⟨fun h=>EH (by rw [h,cond_true] at hR;exact hR),fun h=>⟨DB m.Globals m.Init,Oo (by simp at h;omega) hG,fun h2=>EH (by rw [h,cond_false,h2,cond_true] at hR;exact hR),fun h2=>⟨fun h3=>EH ?_,fun h3=>?_⟩⟩⟩
 ·rw [h,cond_false,h2,cond_false,h3,cond_true] at hR;exact hR
 rw [h,cond_false,h2,cond_false,h3,cond_false] at hR
 refine AD Ak Aj m.Shapes.length (fun k=>RE m k) (fun k=>∀ i,i<k->CJ (m.Shapes.getD i default)=true) (by kernel_rfl) (by kernel_rfl) (fun i hi=>by omega) ?_
 intro k hk hI J next
 refine Bb.raw (Th _ _ m k J) ⟨fun hlt=>?_,fun hge=>?_⟩
 ·have hlt':k<m.Shapes.length:=by have:=AQ hlt;omega
  refine ⟨⟨by omega,by omega⟩,CJ (m.Shapes.getD k default),V7 (hw.Shapes.2 _ (Au hlt')),fun hy=>EH ?_,fun hy=>next _ hlt' (fun i hi=>?_) (Up.of ?_)⟩
  ·have e:D2 m=k:=Dz (f:=fun i=>CJ (m.Shapes.getD i default)) hI hlt' (by simpa using hy)
   rw [e,show decide ((0:Int)<=(k:Int))=true by simp,cond_true] at hR
   exact hR
  ·rcases Nat.lt_succ_iff_lt_or_eq.1 hi with h | rfl
   ·exact hI i h
   ·simpa using hy
  ·rw [Am (by omega)]<;>rfl
 have hge':m.Shapes.length<=k:=by have:=AT hge;omega
 have es:D2 m=-1:=DA (f:=fun i=>CJ (m.Shapes.getD i default)) fun i hi=>hI i (by omega)
 rw [es,show decide ((0:Int)<=-1)=false from rfl,cond_false] at hR
 clear hI next
 refine AD Ak Aj m.Chans.length (fun k=>RD m k) (fun k=>∀ i,i<k->inP m.Shapes.length (m.Chans.getD i 0)=true) (by kernel_rfl) (by kernel_rfl) (fun i hi=>by omega) ?_
 intro k hk hI J next
 refine Bb.raw (Tg _ _ m k J) ⟨fun hlt=>?_,fun hge=>?_⟩
 ·have hlt':k<m.Chans.length:=by have:=AQ hlt;omega
  have hto:(k:Int).toNat=k:=by omega
  rw [hto]
  have hin:inP m.Shapes.length (m.Chans.getD k 0)=!(bif decide (m.Chans.getD k 0<0) then true else decide (m.Chans.getD k 0>=(m.Shapes.length:Int))):=by unfold inP;rw [Bool.eq_iff_iff];simp
  refine ⟨⟨by omega,by omega⟩,fun hy=>EH ?_,fun hy=>next _ hlt' (fun i hi=>?_) (Up.of ?_)⟩
  ·have e:FF m=k:=Dz (f:=fun i=>inP m.Shapes.length (m.Chans.getD i 0)) hI hlt' (by show inP _ _=false;rw [hin,hy]<;>rfl)
   rw [e,show decide ((0:Int)<=(k:Int))=true by simp,cond_true] at hR
   exact hR
  ·rcases Nat.lt_succ_iff_lt_or_eq.1 hi with h | rfl
   ·exact hI i h
   ·rw [hin,hy]<;>rfl
  ·rw [Am (by omega)]<;>rfl
 have hge':m.Chans.length<=k:=by have:=AT hge;omega
 have ec:FF m=-1:=DA (f:=fun i=>inP m.Shapes.length (m.Chans.getD i 0)) fun i hi=>hI i (by omega)
 rw [ec,show decide ((0:Int)<=-1)=false from rfl,cond_false] at hR
 rw [t3]
 refine ⟨fun h4=>EH (by rw [h4,cond_true] at hR;exact hR),fun h4=>⟨⟨by omega,by omega,by omega⟩,?_⟩⟩
 rw [h4,cond_false] at hR
 clear hI next
 have hnn:((m.Exprs.length:Int).toNat)=(AN m).length:=by simp [AN]
 have hnl:(AN m).length=m.Exprs.length:=by simp [AN]
 refine AA.le (l':=[(0,tpM m),(4,.bp 0 0),(10,.ow 1 0 (AN m).length),(116,Aa m.Exprs.length),(117,Aa 0)]) (hs':=[.box (Ae m),.arr true 0 (AN m).length 1 (Ep (AN m))]) ?_ ?_ ?_
 ·rw [hnn];exact AY _
 ·rw [hnn]
  refine ⟨Ob.le_refl _,Ob.le_arr fun i hi=>A2 ?_,trivial⟩
  have:(AN m).getD i false=false:=by
   have hi':i<m.Exprs.length:=by rw [← hnl];exact hi
   simp [AN,List.getD,hi']
  show _=[Ac ((AN m).getD i false)]
  rw [this]<;>rfl
 generalize hX:FD m=X at hR
 have fin:∀ {y:Int × Int},(bif decide (0<=X) then ((3:Int),X) else (0,0))=y->y=R:=fun h=>by rw [← h];exact hR
 refine Bh Ak Aj (fun g st=>∃ (k:Nat) (had:List Bool),k<=m.Exprs.length/\g=m.Exprs.length - k/\had.length=m.Exprs.length/\EV m (m.Exprs.length - k) k had=X/\st=V1 m had k) (by kernel_rfl) (by kernel_rfl) ⟨_,Up.of ⟨0,AN m,Nat.zero_le _,rfl,hnl,hX,rfl⟩⟩ ?_
 rintro g st ⟨k,had,hk,rfl,hhl,hr,rfl⟩
 refine Bb.raw (Tf _ _ m had k _) ⟨fun hlt=>?_,fun hge=>EH (fin ?_)⟩
 ·have hlt':k<m.Exprs.length:=by have:=AQ hlt;omega
  have hto:(k:Int).toNat=k:=by omega
  rw [hto]
  have hwx:Jo (m.Exprs.getD k default):=hw.Exprs.2 _ (Au hlt')
  rw [show m.Exprs.length - k=(m.Exprs.length - (k+1))+1 by omega] at hr
  unfold EV at hr
  refine ⟨Dd m k,Abi (by omega) (by omega) (by unfold Ar;rw [hto];exact hwx),fun hy=>EH (fin ?_),fun hy=>⟨⟨by omega,by omega⟩,Bi (m.Exprs.getD k default),Hh hwx.Args.1 hwx.V.Dims.1,?_⟩⟩
  ·rw [show Dd m k=false by simpa using hy,cond_false] at hr
   rw [← hr,show decide ((0:Int)<=(k:Int))=true by simp,cond_true]
  ·have hye:Dd m k=true:=by simpa using hy
   rw [hye,cond_true] at hr
   have hin:=NS hye
   have hhlen:=LX hwx.Args.1 hwx.V.Dims.1
   unfold Ar at hin
   rw [hto] at hin
   generalize Bi (m.Exprs.getD k default)=l at hin hhlen hr ⊢
   generalize ho:P2 had l=o at hr
   refine Bh Ak Aj (fun g st=>∃ (j:Nat) (had':List Bool),j<=l.length/\g=l.length - j/\had'.length=m.Exprs.length/\P2 had' (l.drop j)=o/\st=V0 m had' k l j) (by kernel_rfl) (by kernel_rfl) ⟨_,Up.of ⟨0,had,Nat.zero_le _,rfl,hhl,ho,rfl⟩⟩ ?_
   rintro g st ⟨j,had',hj,rfl,hhl',hq,rfl⟩
   refine Bb.raw (Te _ _ m had' k l j _ _) ⟨fun hlt2=>?_,fun hge2=>?_⟩
   ·have hlt2':j<l.length:=by have:=AQ hlt2;omega
    have hto2:(j:Int).toNat=j:=by omega
    rw [hto2]
    have hpi:=hin _ (Au (d:=0) hlt2')
    rw [B4 (d:=0) hlt2'] at hq
    generalize l.getD j 0=p at hpi hq ⊢
    unfold P2 at hq
    refine ⟨⟨by omega,by omega⟩,⟨by omega,by omega⟩,fun hy=>EH (fin ?_),fun hy=>⟨⟨by omega,by omega⟩,l.length - (j+1),by omega,?_⟩⟩
    ·rw [hy,cond_true] at hq
     rw [← hq] at hr
     rw [← hr,show decide ((0:Int)<=(k:Int))=true by simp,cond_true]
    ·rw [hy,cond_false] at hq
     have hsl:(had'.set p.toNat true).length=had'.length:=by simp
     rw [Am (by omega)]
     refine Up.mk (l':=[(0,tpM m),(4,.bp 0 0),(10,.ow 1 0 (had'.set p.toNat true).length),(11,Aa k),(116,Aa m.Exprs.length),(117,Aa k),(130,Ad true l),(131,Aa l.length),(132,Aa ((j+1:Nat):Int))])
      (hs':=[.box (Ae m),.arr true 0 (had'.set p.toNat true).length 1 (Ep (had'.set p.toNat true))]) ?_ ?_ ⟨j+1,had'.set p.toNat true,by omega,rfl,by rw [hsl];exact hhl',hq,rfl⟩
     ·rw [hsl];exact AY _
     ·rw [hsl]
      exact ⟨Ob.le_refl _,Ob.le_arr fun i hi=>A2 (NJ hi),trivial⟩
   ·have hge2':l.length<=j:=by have:=AT hge2;omega
    rw [List.drop_eq_nil_of_le hge2'] at hq
    unfold P2 at hq
    rw [← hq] at hr
    rw [Am (by omega)]
    exact ⟨m.Exprs.length - (k+1),by omega,Up.of ⟨k+1,had',by omega,rfl,hhl',hr,rfl⟩⟩
 ·have hge':m.Exprs.length<=k:=by have:=AT hge;omega
  rw [show m.Exprs.length - k=0 by omega] at hr
  unfold EV at hr
  rw [← hr]<;>rfl
theorem Ahm (a b:Int) (x:Bool):(bif a==b then !x else false)=(decide (a=b)&&!x):=by rw [ieq,AM]
theorem I2 (m:D.Model) (k:Nat):Ey m k=(bif bif bif bif !(DZ (m.Procs.getD k default)) then true else !(EU (m.Procs.getD k default)) then true else decide ((m.Procs.getD k default).Provided<(-1:Int)) then true else decide ((m.Procs.getD k default).Provided>=(m.Exprs.length:Int)) then true else bif (k:Int)==m.Claim then !(Gr (m.Procs.getD k default)) else false):=by
 unfold Ey
 simp only [Ahm,Bd,Bool.or_assoc]
theorem QN {m:D.Model} {k:Nat} (hk:k<m.Procs.length):DG m (k+1)=DG m k+(m.Procs.getD k default).Active:=by
 unfold DG
 rw [Ec (d:=default) hk,List.map_append,List.sum_append]
 simp
theorem Lg {m:D.Model} (hw:Ay m) (h:¬ 0<(Br m).1):EJ m:=by
 refine ⟨hw,UE ?_⟩
 have hx:-1<=FD m:=by
  unfold FD
  have:∀ (g i:Nat) (had:List Bool),-1<=EV m g i had:=by
   intro g
   induction g with
   | zero=>intro i had;unfold EV;omega
   | succ g ih =>
    intro i had
    unfold EV
    cases Dd m i with
    | false=>simp only [cond_false];omega
    | true =>
     simp only [cond_true]
     split
     ·exact ih _ _
     ·omega
  exact this _ _ _
 refine Classical.byContradiction fun hn=>h ?_
 unfold Br
 generalize (decide (128<m.Globals.length)||!decide (m.Init.length=m.Globals.length))=b1
 generalize decide (0<=DB m.Globals m.Init)=b2
 generalize (decide (32<m.Shapes.length)||decide (32<m.Chans.length))=b3
 generalize decide (0<=D2 m)=b4
 generalize decide (0<=FF m)=b5
 generalize (decide (m.Procs.length<1)||(decide (16<m.Procs.length)||(decide (m.Claim < -1)||(decide ((m.Procs.length:Int)<=m.Claim)||decide (4096<m.Exprs.length)))))=b6
 rw [show decide (0<=FD m)=true by simp;omega]
 cases b1<;>cases b2<;>cases b3<;>cases b4<;>cases b5<;>cases b6<;>simp
theorem XA {m:D.Model} (hw:Ay m):Ai Tryz.prog 70 [] [.agg (Ae m)] [] (.tup [Aa (I8 m).1,Aa (I8 m).2.1,Aa (I8 m).2.2]):=by
 have hP:=hw.Procs.1
 refine Ag Ak Aj Tryz.func70 (by kernel_rfl) rfl (Abw _ _ _ m) ⟨Br m,Td hw,?_⟩
 generalize hR:I8 m=R
 unfold I8 at hR
 refine ⟨fun h=>Kd (by rw [show decide (0<(Br m).1)=true from h,cond_true] at hR;exact hR),fun h=>?_⟩
 have hready:=Lg hw (of_decide_eq_false h)
 rw [show decide (0<(Br m).1)=false from h,cond_false] at hR
 refine AD Ak Aj m.Procs.length (fun k=>Ly m (DG m k) k) (fun k=>(∀ i,i<k->(!Ey m i)=true)/\0<=DG m k/\DG m k<=16*k) (by kernel_rfl) (by kernel_rfl) ⟨fun i hi=>by omega,by simp [DG],by simp [DG]⟩ ?_
 intro k hk ⟨hI,hm0,hm1⟩ J next
 refine Bb.raw (XC _ _ _ m (DG m k) k J) ⟨fun hlt=>?_,fun hge=>?_⟩
 ·have hlt':k<m.Procs.length:=by have:=AQ hlt;omega
  have hto:(k:Int).toNat=k:=by omega
  rw [hto]
  have hwp:=hw.Procs.2 _ (Au (d:=default) hlt')
  refine ⟨⟨by omega,by omega⟩,DZ (m.Procs.getD k default),Xo hwp,EU (m.Procs.getD k default),fun _=>Xj hwp,Gr (m.Procs.getD k default),fun _=>Su hwp,?_⟩
  rw [← I2]
  refine ⟨fun hy=>Kd ?_,fun hy=>?_⟩
  ·have e:FP m=k:=Dz (f:=fun i=>!Ey m i) hI hlt' (by rw [hy]<;>rfl)
   rw [e,show decide ((0:Int)<=(k:Int))=true by simp,cond_true] at hR
   exact hR
  ·have hfr:DZ (m.Procs.getD k default)=true:=by
    rw [I2] at hy
    cases hq:DZ (m.Procs.getD k default) with
    | true=>rfl
    | false=>rw [hq] at hy;simp at hy
   have hac:0<=(m.Procs.getD k default).Active/\(m.Procs.getD k default).Active<=16:=by
    unfold DZ at hfr
    simp only [Bool.and_eq_true,decide_eq_true_eq] at hfr
    omega
   have hms:=QN hlt'
   refine next _ hlt' ⟨fun i hi=>?_,by omega,by omega⟩ (Up.of ?_)
   ·rcases Nat.lt_succ_iff_lt_or_eq.1 hi with h | rfl
    ·exact hI i h
    ·rw [hy]<;>rfl
   ·rw [hms,Am (by omega),A1 (n:=DG m k+_) (by omega) (by omega)]<;>rfl
 ·have hge':k=m.Procs.length:=by have:=AT hge;omega
  subst hge'
  have e:FP m=-1:=DA (f:=fun i=>!Ey m i) fun i hi=>hI i (by omega)
  rw [e,show decide ((0:Int)<=-1)=false from rfl,cond_false] at hR
  refine ⟨fun h2=>Kd (by rw [show decide (16<DG m m.Procs.length)=true from h2,cond_true] at hR;exact hR),fun h2=>?_⟩
  rw [show decide (16<DG m m.Procs.length)=false from h2,cond_false] at hR
  have hpv:∀ i,i<m.Procs.length->(m.Procs.getD i default).Provided<m.Exprs.length:=fun i hi=>by
   have:=hI i hi
   rw [I2] at this
   simp only [Bd,Bool.not_eq_true',Bool.or_eq_false_iff,decide_eq_false_iff_not] at this
   omega
  clear hI next
  refine AD Ak Aj m.Procs.length (fun k=>Lx m k) (fun k=>∀ i:Nat,i<k->Dt m i=true) (by kernel_rfl) (by kernel_rfl) (fun i hi=>by omega) ?_
  intro k hk hI J next
  refine Bb.raw (XB _ _ _ m k J) ⟨fun hlt=>?_,fun hge=>Kd ?_⟩
  ·have hlt':k<m.Procs.length:=by have:=AQ hlt;omega
   refine ⟨Dt m k,Aaz hready (by omega) (by omega) (hpv _ (by omega)),fun hy=>Kd ?_,fun hy=>next _ hlt' (fun i hi=>?_) (Up.of ?_)⟩
   ·have e:IT m=k:=Dz (f:=fun i:Nat=>Dt m i) hI hlt' (by simpa using hy)
    rw [e,show decide ((0:Int)<=(k:Int))=true by simp,cond_true] at hR
    exact hR
   ·rcases Nat.lt_succ_iff_lt_or_eq.1 hi with h | rfl
    ·exact hI i h
    ·simpa using hy
   ·rw [Am (by omega)]<;>rfl
  ·have hge':m.Procs.length<=k:=by have:=AT hge;omega
   have e:IT m=-1:=DA (f:=fun i:Nat=>Dt m i) fun i hi=>hI i (by omega)
   rw [e,show decide ((0:Int)<=-1)=false from rfl,cond_false] at hR
   exact hR
end Go.Proofs.YtiaebjpcgjkhoaaGreatDoor
namespace Go.Proofs.YtiaebjpcgjkhoaaGreatDoor
open Go.RowKit
def Kf (fz:Bool) (x:D.State):List VV:=[Ad true x.Globals,Bg fz x.Chans,AW fz x.Procs,Aa x.Last,Aa x.Alone,Aa x.Claim]
def AX (t:List D.Type) (l:List Int):Bool:=decide (t.length=l.length)&&Ce l.length fun i=>Ci (t.getD i default) (l.getD i 0)
def BC (m:D.Model) (k:Int):D.Shape:=m.Shapes.getD k.toNat default
def AK (m:D.Model) (k:Int):D.Proc:=m.Procs.getD k.toNat default
def CC (m:D.Model) (c:D.Chan):Bool:=inP m.Shapes.length c.Shape&&decide ((c.Queue.length:Int)<=(BC m c.Shape).Room)&&Ce c.Queue.length fun i=>AX (BC m c.Shape).Fields (c.Queue.getD i [])
def AP (m:D.Model) (p:D.Process):Bool:=BO m p.Type_&&inP (AK m p.Type_).Locs.length p.Loc&&decide (p.Prio=(AK m p.Type_).Prio)&&AX (AK m p.Type_).Frame p.Frame
def Gp (m:D.Model) (s:D.State):Bool:=AX m.Globals s.Globals&&decide (s.Chans.length<=32)&&decide (s.Procs.length<=16)&&decide (0<=s.Last)&&decide (s.Last<16)&&decide (-1<=s.Alone)&&decide (s.Alone<s.Procs.length)
def FQ (m:D.Model) (s:D.State):Bool:=bif decide (m.Claim<0) then decide (s.Claim=-1) else inP (AK m m.Claim).Locs.length s.Claim
def Cu (m:D.Model) (s:D.State):Bool:=Gp m s&&(Ce s.Chans.length fun i=>CC m (s.Chans.getD i default))&&(Ce s.Procs.length fun i=>AP m (s.Procs.getD i default))&&FQ m s
def FO (m:D.Model):Bool:=decide ((I8 m).1=0)
def CY (m:D.Model) (s:D.State):Int:=bif FO m then (bif Cu m s then 0 else 41) else 40
structure Lim (m:D.Model):Prop where
 room:∀ k:Int,0<=k->k<m.Shapes.length->(BC m k).Room<=16
 locs:∀ k:Int,0<=k->k<m.Procs.length->(AK m k).Locs.length<=256
 one:1<=m.Procs.length
 clp:m.Claim<m.Procs.length
theorem Dy {m:D.Model} (h:FO m=true):Br m=(0,0)/\FP m=-1/\IT m=-1:=by
 unfold FO I8 at h
 have h1:∀ n (f:Nat->Bool),-1<=Ih n f:=fun n f=>Afe
 have hf:=h1 m.Procs.length fun i=>!Ey m i
 have hp:=h1 m.Procs.length fun i:Nat=>Dt m i
 cases b1:decide (0<(Br m).1) with
 | true=>rw [b1,cond_true] at h;simp at h
 | false =>
  rw [b1,cond_false] at h
  cases b2:decide (0<=FP m) with
  | true=>rw [b2,cond_true] at h;simp at h
  | false =>
   rw [b2,cond_false] at h
   cases b3:decide (16<DG m m.Procs.length) with
   | true=>rw [b3,cond_true] at h;simp at h
   | false =>
    rw [b3,cond_false] at h
    cases b4:decide (0<=IT m) with
    | true=>rw [b4,cond_true] at h;simp at h
    | false =>
     have:=of_decide_eq_false b2
     have:=of_decide_eq_false b4
     refine ⟨?_,by show Ih _ _=-1;unfold FP at *;omega,by show Ih _ _=-1;unfold IT at *;omega⟩
     have b1:=of_decide_eq_false b1
     unfold Br at b1 ⊢
     generalize (decide (128<m.Globals.length)||!decide (m.Init.length=m.Globals.length))=c1 at b1 ⊢
     generalize decide (0<=DB m.Globals m.Init)=c2 at b1 ⊢
     generalize (decide (32<m.Shapes.length)||decide (32<m.Chans.length))=c3 at b1 ⊢
     generalize decide (0<=D2 m)=c4 at b1 ⊢
     generalize decide (0<=FF m)=c5 at b1 ⊢
     generalize (decide (m.Procs.length<1)||(decide (16<m.Procs.length)||(decide (m.Claim < -1)||(decide ((m.Procs.length:Int)<=m.Claim)||decide (4096<m.Exprs.length)))))=c6 at b1 ⊢
     generalize decide (0<=FD m)=c7 at b1 ⊢
     cases c1<;>cases c2<;>cases c3<;>cases c4<;>cases c5<;>cases c6<;>cases c7<;>simp at b1 ⊢
structure AfE (m:D.Model):Prop where
 globals:m.Globals.length<=128
 init:m.Init.length=m.Globals.length
 types:DB m.Globals m.Init<0
 shapes:m.Shapes.length<=32
 chans:m.Chans.length<=32
 shape:∀ i,i<m.Shapes.length->CJ (m.Shapes.getD i default)=true
 chan:∀ i,i<m.Chans.length->inP m.Shapes.length (m.Chans.getD i 0)=true
 procs:1<=m.Procs.length/\m.Procs.length<=16
 claim:-1<=m.Claim/\m.Claim<m.Procs.length
 exprs:m.Exprs.length<=4096
theorem OA {m:D.Model} (h:Br m=(0,0)):AfE m:=by
 unfold Br at h
 cases c1:(decide (128<m.Globals.length)||!decide (m.Init.length=m.Globals.length)) with
 | true=>rw [c1,cond_true] at h;simp at h
 | false =>
 cases c2:decide (0<=DB m.Globals m.Init) with
 | true=>rw [c1,c2,cond_false,cond_true] at h;simp at h
 | false =>
 cases c3:(decide (32<m.Shapes.length)||decide (32<m.Chans.length)) with
 | true=>rw [c1,c2,c3,cond_false,cond_false,cond_true] at h;simp at h
 | false =>
 cases c4:decide (0<=D2 m) with
 | true=>rw [c1,c2,c3,c4,cond_false,cond_false,cond_false,cond_true] at h;simp at h
 | false =>
 cases c5:decide (0<=FF m) with
 | true=>rw [c1,c2,c3,c4,c5,cond_false,cond_false,cond_false,cond_false,cond_true] at h;simp at h
 | false =>
 cases c6:(decide (m.Procs.length<1)||(decide (16<m.Procs.length)||(decide (m.Claim < -1)||(decide ((m.Procs.length:Int)<=m.Claim)||decide (4096<m.Exprs.length))))) with
 | true=>rw [c1,c2,c3,c4,c5,c6,cond_false,cond_false,cond_false,cond_false,cond_false,cond_true] at h;simp at h
 | false =>
 simp only [Bool.or_eq_false_iff,decide_eq_false_iff_not,Bool.not_eq_false',decide_eq_true_eq] at c1 c2 c3 c4 c5 c6
 exact ⟨by omega,c1.2,by omega,by omega,by omega,Jc (f:=fun i=>CJ (m.Shapes.getD i default)) (by unfold D2 at c4;omega),Jc (f:=fun i=>inP m.Shapes.length (m.Chans.getD i 0)) (by unfold FF at c5;omega),by omega,by omega,by omega⟩
theorem F4 {m:D.Model} (h:FP m=-1):∀ i,i<m.Procs.length->DZ (m.Procs.getD i default)=true/\EU (m.Procs.getD i default)=true:=fun i hi=>by
 have:=Jc (f:=fun i=>!Ey m i) (by unfold FP at h;omega) i hi
 unfold Ey at this
 simp only [Bool.not_eq_true',Bool.or_eq_false_iff,Bool.not_eq_false'] at this
 exact ⟨this.1,this.2.1⟩
theorem Ky {m:D.Model} (h:FO m=true):Lim m:=by
 obtain ⟨h1,h2,_⟩:=Dy h
 have ht:=OA h1
 refine ⟨fun k h0 hk=>?_,fun k h0 hk=>?_,ht.procs.1,ht.claim.2⟩
 ·have:=ht.shape k.toNat (by omega)
  unfold CJ at this
  simp only [Bool.and_eq_true,decide_eq_true_eq] at this
  exact this.1.1.1.2
 ·have:=(F4 h2 k.toNat (by omega)).2
  unfold EU at this
  simp only [Bool.and_eq_true,decide_eq_true_eq] at this
  exact this.1.1.1.2
structure Fit (s:D.State):Prop where
 g:s.Globals.length<=128
 c:s.Chans.length<=32
 q:∀ c∈s.Chans,c.Queue.length<=16/\∀ x∈c.Queue,x.length<=8
 p:s.Procs.length<=16
 f:∀ p∈s.Procs,p.Frame.length<=128
theorem Ea {t:List D.Type} {l:List Int} (h:AX t l=true):l.length=t.length:=by
 unfold AX at h
 simp only [Bool.and_eq_true,decide_eq_true_eq] at h
 exact h.1.symm
theorem Sq {m:D.Model} {s:D.State} (hmay:FO m=true) (h:Cu m s=true):Fit s:=by
 have hm:=Ky hmay
 obtain ⟨ht1,ht2,_⟩:=Dy hmay
 have ht:=OA ht1
 unfold Cu at h
 simp only [Bool.and_eq_true] at h
 obtain ⟨⟨⟨h1,h2⟩,h3⟩,h4⟩:=h
 unfold Gp at h1
 simp only [Bool.and_eq_true,decide_eq_true_eq] at h1
 obtain ⟨⟨⟨⟨⟨⟨g1,g2⟩,g3⟩,g4⟩,g5⟩,g6⟩,g7⟩:=h1
 refine ⟨?_,g2,fun c hc=>?_,g3,fun p hp=>?_⟩
 ·rw [Ea g1];exact ht.globals
 ·have h:=(Ck (d:=default) (f:=fun c=>CC m c)).1 h2 c hc
  unfold CC at h
  simp only [Bool.and_eq_true,decide_eq_true_eq] at h
  have hi:=Cz.1 h.1.1
  have hr:=hm.room _ hi.1 hi.2
  refine ⟨by omega,fun x hx=>?_⟩
  have hq:=(Ck (d:=[]) (f:=fun x=>AX (BC m c.Shape).Fields x)).1 h.2 x hx
  rw [Ea hq]
  have:=ht.shape c.Shape.toNat (by omega)
  unfold CJ at this
  simp only [Bool.and_eq_true,decide_eq_true_eq] at this
  exact this.1.2
 ·have h:=(Ck (d:=default) (f:=fun c=>AP m c)).1 h3 p hp
  unfold AP BO at h
  simp only [Bool.and_eq_true,decide_eq_true_eq] at h
  rw [Ea h.2]
  have:=(F4 ht2 p.Type_.toNat (by omega)).1
  unfold DZ at this
  simp only [Bool.and_eq_true,decide_eq_true_eq] at this
  exact this.1.1.1.1.1.1.1.1
end Go.Proofs.YtiaebjpcgjkhoaaGreatDoor
namespace Go.Proofs.YtiaebjpcgjkhoaaGreatDoor
open Go.RowKit
def Kr (f:FuncId):Shp:=bif Nat.beq f 25 then ZR else Be f
end Go.Proofs.YtiaebjpcgjkhoaaGreatDoor
namespace Go.Proofs.YtiaebjpcgjkhoaaGreatDoor
open Go.RowKit
def MK : Ann:={ keep:=fun
  | [0,1,0,1,1]=>[0,12,13,14]
  | _=>[] }
def Jk : Ann:={ keep:=fun
  | [0,1,0,1,1]=>[2,3,32,33,34]
  | _=>[] }
def Gv : Ann:={ keep:=fun
  | [0,1,0,1,1]=>[2,3,51,52,53]
  | [0,1,0,1,1,1]=>[2,3,63,64,65]
  | _=>[] }
def Nt (t:List D.Type) (l:List Int) (k:Int):St:=AB [(0,AE true t),(12,Ad true l),(13,Aa l.length),(14,Aa k)] []
def JC (m:D.Model) (c:D.Chan) (k:Int):St:=AB [(2,.bp 0 0),(3,.bp 1 0),(32,Bx true c.Queue),(33,Aa c.Queue.length),(34,Aa k)] [.box (Ae m),.box (AF c)]
def NG (m:D.Model) (s:D.State) (k:Int):St:=AB [(2,.bp 0 0),(3,.bp 1 0),(51,Bg false s.Chans),(52,Aa s.Chans.length),(53,Aa k)] [.box (Ae m),.box (Kf false s)]
def NF (m:D.Model) (s:D.State) (k:Int):St:=AB [(2,.bp 0 0),(3,.bp 1 0),(63,AW false s.Procs),(64,Aa s.Procs.length),(65,Aa k)] [.box (Ae m),.box (Kf false s)]
end Go.Proofs.YtiaebjpcgjkhoaaGreatDoor
namespace Go.Proofs.YtiaebjpcgjkhoaaGreatDoor
open Go.RowKit
set_option maxRecDepth 100000
theorem Zv (b:Bool) (t:List D.Type) (l:List Int):(fc Kr MK Tryz.f71 [] (Ac b)).goal (St.init [] [AE true t,Ad true l]) =
  (BB ((↑t.length:Int) != (↑l.length:Int)) (LQ (Ac false) (Ac b)) (AA (fc Kr MK Tryz.f71 [] (Ac b)) [1,1,0,1,0] (Nt t l (0:Int)))):=by kernel_rfl
theorem UU (b:Bool) (m:D.Model) (c:D.Chan):(fc Kr Jk Tryz.f72 [] (Ac b)).goal (St.init [] [.agg (Ae m),.agg (AF c)]) =
  (((true&&(bif decide (c.Shape<0) then true else decide (c.Shape>=(↑m.Shapes.length:Int)))==false)=true->inX c.Shape m.Shapes.length)/\BB (bif bif decide (c.Shape<0) then true else decide (c.Shape>=(↑m.Shapes.length:Int)) then true else decide ((↑c.Queue.length:Int) > (m.Shapes.getD c.Shape.toNat default).Room)) (LQ (Ac false) (Ac b)) (AA (fc Kr Jk Tryz.f72 [] (Ac b)) [1,1,0,1,0] (JC m c (0:Int)))):=by kernel_rfl
theorem TX (b:Bool) (m:D.Model) (p:D.Process):(fc Kr Bl Tryz.f73 [] (Ac b)).goal (St.init [] [.agg (Ae m),.agg (As p)]) =
  (BB (bif bif decide (p.Type_<0) then true else decide (p.Type_>=(↑m.Procs.length:Int)) then true else p.Type_==m.Claim) (LQ (Ac false) (Ac b)) (inX p.Type_ m.Procs.length/\∃ (y:Bool),((true&&(bif bif decide (p.Loc>=0) then decide (p.Loc<(↑(m.Procs.getD p.Type_.toNat default).Locs.length:Int)) else false then p.Prio==(m.Procs.getD p.Type_.toNat default).Prio else false)==true)=true->VC 71 [AE true (m.Procs.getD p.Type_.toNat default).Frame,Ad true p.Frame] (Ac y))/\LQ (Ac (bif bif bif decide (p.Loc>=0) then decide (p.Loc<(↑(m.Procs.getD p.Type_.toNat default).Locs.length:Int)) else false then p.Prio==(m.Procs.getD p.Type_.toNat default).Prio else false then y else false)) (Ac b))):=by kernel_rfl
theorem VZ (b:Bool) (m:D.Model) (s:D.State):(fc Kr Gv Tryz.f47 [] (Ac b)).goal (St.init [] [.agg (Ae m),.agg (Kf false s)]) =
  (∃ (y:Bool),VC 71 [AE true m.Globals,Ad true s.Globals] (Ac y)/\BB (bif bif bif bif bif bif !y then true else decide ((↑s.Chans.length:Int) > 32) then true else decide ((↑s.Procs.length:Int) > 16) then true else decide (s.Last<0) then true else decide (s.Last>=16) then true else decide (s.Alone<(-1:Int)) then true else decide (s.Alone>=(↑s.Procs.length:Int))) (LQ (Ac false) (Ac b)) (AA (fc Kr Gv Tryz.f47 [] (Ac b)) [1,1,0,1,0] (NG m s (0:Int)))):=by kernel_rfl
theorem AeP (b:Bool) (m:D.Model):(fc Kr Bl Tryz.f46 [] (Ac b)).goal (St.init [] [.agg (Ae m)]) =
  (∃ (y:Int × Int × Int),VC 70 [VV.agg (Ae m)] (VV.tup [Aa y.fst,Aa y.snd.fst,Aa y.snd.snd])/\LQ (Ac (y.fst==0)) (Ac b)):=by kernel_rfl
theorem Tm (r:Int) (m:D.Model) (s:D.State):(fc Kr Bl Tryz.f25 [] (Aa r)).goal (St.init [] [.agg (Ae m),.agg (An s)]) =
  (∃ (y:Bool),VC 46 [VV.agg (Ae m)] (Ac y)/\BB (!y) (LQ (Aa 40) (Aa r)) (∃ (y:Bool),VC 47 [VV.agg (Ae m),VV.agg (An s)] (Ac y)/\BB (!y) (LQ (Aa 41) (Aa r)) (LQ (Aa 0) (Aa r)))):=by kernel_rfl
theorem VM (b:Bool) (t:List D.Type) (l:List Int) (k:Int) (J:St->Prop):((fc Kr MK Tryz.f71 [] (Ac b)).loop [1,1,0,1,0] J).goal (Nt t l k) =
  (BB (decide (k<(↑l.length:Int))) (inX k l.length/\inX k t.length/\∃ (y:Bool),VC 107 [VV.agg (BU (t.getD k.toNat default)),Aa (l.getD k.toNat 0)] (Ac y)/\BB (!y) (LQ (Ac false) (Ac b)) (J (Nt t l (IntKind.i64.wrap (k+(1:Int)))))) (LQ (Ac true) (Ac b))):=by kernel_rfl
theorem Sy (b:Bool) (m:D.Model) (c:D.Chan) (k:Int) (J:St->Prop):((fc Kr Jk Tryz.f72 [] (Ac b)).loop [1,1,0,1,0] J).goal (JC m c k) =
  (BB (decide (k<(↑c.Queue.length:Int))) (inX k c.Queue.length/\inX c.Shape m.Shapes.length/\∃ (y:Bool),VC 71 [AE true (m.Shapes.getD c.Shape.toNat default).Fields,Ad true (c.Queue.getD k.toNat [])] (Ac y)/\BB (!y) (LQ (Ac false) (Ac b)) (J (JC m c (IntKind.i64.wrap (k+(1:Int)))))) (LQ (Ac true) (Ac b))):=by kernel_rfl
theorem Tl (b:Bool) (m:D.Model) (s:D.State) (k:Int) (J:St->Prop):((fc Kr Gv Tryz.f47 [] (Ac b)).loop [1,1,0,1,0] J).goal (NG m s k) =
  (BB (decide (k<(↑s.Chans.length:Int))) (inX k s.Chans.length/\∃ (y:Bool),VC 72 [VV.agg (Ae m),VV.agg (AF (s.Chans.getD k.toNat default))] (Ac y)/\BB (!y) (LQ (Ac false) (Ac b)) (J (NG m s (IntKind.i64.wrap (k+(1:Int)))))) (AA (fc Kr Gv Tryz.f47 [] (Ac b)) [1,1,1,0,1,0] (NF m s (0:Int)))):=by kernel_rfl
theorem Tk (b:Bool) (m:D.Model) (s:D.State) (k:Int) (J:St->Prop):((fc Kr Gv Tryz.f47 [] (Ac b)).loop [1,1,1,0,1,0] J).goal (NF m s k) =
  (BB (decide (k<(↑s.Procs.length:Int))) (inX k s.Procs.length/\∃ (y:Bool),VC 73 [VV.agg (Ae m),VV.agg (As (s.Procs.getD k.toNat default))] (Ac y)/\BB (!y) (LQ (Ac false) (Ac b)) (J (NF m s (IntKind.i64.wrap (k+(1:Int)))))) (BB (decide (m.Claim<0)) (LQ (Ac (s.Claim==(-1:Int))) (Ac b)) (((true&&decide (s.Claim>=0)==true)=true->inX m.Claim m.Procs.length)/\LQ (Ac (bif decide (s.Claim>=0) then decide (s.Claim<(↑(m.Procs.getD m.Claim.toNat default).Locs.length:Int)) else false)) (Ac b)))):=by kernel_rfl
end Go.Proofs.YtiaebjpcgjkhoaaGreatDoor
namespace Go.Proofs.YtiaebjpcgjkhoaaGreatDoor
open Go.RowKit
theorem Yt {xs ys:List VV} (hl:ys.length=xs.length) (h:∀ (j:Nat) x y,xs[j]?=some x->ys[j]?=some y->leS x y):leS (.agg xs) (.agg ys):=by
 intro w E m v hE hv
 obtain ⟨vs,rfl,h1,h2⟩:=hv.agg_inv
 refine .agg (h1.trans hl.symm) fun j y hy=>?_
 have hj:j<xs.length:=by rw [← hl];exact (List.getElem?_eq_some_iff.1 hy).1
 exact h j _ y (List.getElem?_eq_getElem hj) hy w E m _ hE (h2 j _ (List.getElem?_eq_getElem hj))
theorem BE {k:Nat} {P:Nat->Prop} (hI:∀ i,i<k->P i) (h:P k):∀ i,i<k+1->P i:=fun i hi=>by
 rcases Nat.lt_succ_iff_lt_or_eq.1 hi with h' | rfl
 ·exact hI i h'
 ·exact h
def Len (n:Nat):Prop:=n<=1099511627776
theorem Kp {t:List D.Type} {l:List Int} (hl:Len l.length):Ai Tryz.prog 71 [] [AE true t,Ad true l] [] (Ac (AX t l)):=by
 unfold Len at hl
 refine Ag Ak Aj Tryz.func71 (by kernel_rfl) rfl (Zv _ t l) ⟨fun h=>Ao ?_,fun h=>?_⟩
 ·unfold AX
  have:decide (t.length=l.length)=false:=by simp at h;simp;omega
  rw [this,Bool.false_and]
 ·have hlen:t.length=l.length:=by simp at h;omega
  have e:AX t l=Ce l.length fun i=>Ci (t.getD i default) (l.getD i 0):=by unfold AX;rw [show decide (t.length=l.length)=true by simpa using hlen,Bool.true_and]
  rw [e]
  refine AD Ak Aj l.length (fun k=>Nt t l k) (fun k=>∀ i,i<k->Ci (t.getD i default) (l.getD i 0)=true) (by kernel_rfl) (by kernel_rfl) (fun i hi=>by omega) ?_
  intro k hk hI J next
  refine Bb.raw (VM _ t l k J) ⟨fun hlt=>?_,fun hge=>Ao ?_⟩
  ·have hlt':k<l.length:=by have:=AQ hlt;omega
   refine ⟨⟨by omega,by omega⟩,⟨by omega,by omega⟩,Ci (t.getD k default) (l.getD k 0),MC _ _,fun hy=>Ao ?_,fun hy=>next _ hlt' (BE hI (by simpa using hy)) (Up.of ?_)⟩
   ·exact (Bo (f:=fun i=>Ci (t.getD i default) (l.getD i 0)) hlt' (by simpa using hy)).symm
   ·rw [Am (by omega)]<;>rfl
  ·have hge':l.length<=k:=by have:=AT hge;omega
   exact (AL.2 fun i hi=>hI i (by omega)).symm
structure Ad6 (c:D.Chan):Prop where
 q:Len c.Queue.length
 m:∀ x∈c.Queue,Len x.length
theorem Sx {m:D.Model} {c:D.Chan} (hc:Ad6 c):Ai Tryz.prog 72 [] [.agg (Ae m),.agg (AF c)] [] (Ac (CC m c)):=by
 have hq:=hc.q
 unfold Len at hq
 refine Ag Ak Aj Tryz.func72 (by kernel_rfl) rfl (UU _ m c) ⟨fun h=>?_,fun h=>Ao ?_,fun h=>?_⟩
 ·simp at h;omega
 ·symm;rw [Bool.eq_false_iff];intro hcc
  unfold CC at hcc
  simp only [Bool.and_eq_true,decide_eq_true_eq] at hcc
  have:=Cz.1 hcc.1.1
  have hr:(BC m c.Shape).Room=(m.Shapes.getD c.Shape.toNat default).Room:=rfl
  rw [hr] at hcc
  generalize (m.Shapes.getD c.Shape.toNat default).Room=rm at h hcc
  simp at h;omega
 ·have hs:0<=c.Shape/\c.Shape<m.Shapes.length/\(c.Queue.length:Int)<=(BC m c.Shape).Room:=by
   have hr:(BC m c.Shape).Room=(m.Shapes.getD c.Shape.toNat default).Room:=rfl
   rw [hr]
   generalize (m.Shapes.getD c.Shape.toNat default).Room=rm at h ⊢
   simp at h;omega
  have e:CC m c=Ce c.Queue.length fun i=>AX (BC m c.Shape).Fields (c.Queue.getD i []):=by
   unfold CC
   rw [Cz.2 ⟨hs.1,hs.2.1⟩,show decide ((c.Queue.length:Int)<=(BC m c.Shape).Room)=true by simpa using hs.2.2]<;>rfl
  rw [e]
  refine AD Ak Aj c.Queue.length (fun k=>JC m c k) (fun k=>∀ i,i<k->AX (BC m c.Shape).Fields (c.Queue.getD i [])=true) (by kernel_rfl) (by kernel_rfl) (fun i hi=>by omega) ?_
  intro k hk hI J next
  refine Bb.raw (Sy _ m c k J) ⟨fun hlt=>?_,fun hge=>Ao ?_⟩
  ·have hlt':k<c.Queue.length:=by have:=AQ hlt;omega
   refine ⟨⟨by omega,by omega⟩,⟨hs.1,hs.2.1⟩,AX (BC m c.Shape).Fields (c.Queue.getD k []),Kp (hc.m _ (Au hlt')),fun hy=>Ao ?_,fun hy=>next _ hlt' (BE hI (by simpa using hy)) (Up.of ?_)⟩
   ·exact (Bo (f:=fun i=>AX (BC m c.Shape).Fields (c.Queue.getD i [])) hlt' (by simpa using hy)).symm
   ·rw [Am (by omega)]<;>rfl
  ·have hge':c.Queue.length<=k:=by have:=AT hge;omega
   exact (AL.2 fun i hi=>hI i (by omega)).symm
theorem R4 {m:D.Model} {p:D.Process} (hp:Len p.Frame.length):Ai Tryz.prog 73 [] [.agg (Ae m),.agg (As p)] [] (Ac (AP m p)):=by
 have hpr:(AK m p.Type_)=m.Procs.getD p.Type_.toNat default:=rfl
 refine Ag Ak Aj Tryz.func73 (by kernel_rfl) rfl (TX _ m p) ⟨fun h=>Ao ?_,fun h=>⟨?_,AX (AK m p.Type_).Frame p.Frame,fun _=>Kp hp,Ao ?_⟩⟩
 ·unfold AP BO
  have:(decide (0<=p.Type_)&&decide (p.Type_<m.Procs.length)&&decide (p.Type_≠m.Claim))=false:=by
   rw [Bool.eq_false_iff];intro hc;simp at hc h;omega
  rw [this]<;>rfl
 ·simp at h;omega
 ·unfold AP BO inP
  have:(decide (0<=p.Type_)&&decide (p.Type_<m.Procs.length)&&decide (p.Type_≠m.Claim))=true:=by simp at h ⊢;omega
  rw [this,Bool.true_and,← hpr]
  simp only [ieq,AM,ge_iff_le]
structure A4 (s:D.State):Prop where
 g:Len s.Globals.length
 c:Len s.Chans.length
 p:Len s.Procs.length
 cs:∀ c∈s.Chans,Ad6 c
 ps:∀ p∈s.Procs,Len p.Frame.length
theorem Rz {m:D.Model} {s:D.State} (hs:A4 s) (hcl:m.Claim<m.Procs.length):Ai Tryz.prog 47 [] [.agg (Ae m),.agg (Kf false s)] [] (Ac (Cu m s)):=by
 have hc:=hs.c
 have hp:=hs.p
 unfold Len at hc hp
 have ht:(bif bif bif bif bif bif !(AX m.Globals s.Globals) then true else decide ((s.Chans.length:Int) > 32) then true else decide ((s.Procs.length:Int) > 16) then true else decide (s.Last<0) then true else decide (s.Last>=16) then true else decide (s.Alone<(-1:Int)) then true else decide (s.Alone>=(s.Procs.length:Int)))=!(Gp m s):=by
  unfold Gp
  cases AX m.Globals s.Globals
  ·rfl
  ·rw [Bool.eq_iff_iff];simp;omega
 refine Ag Ak Aj Tryz.func47 (by kernel_rfl) rfl (VZ _ m s) ⟨AX m.Globals s.Globals,Kp hs.g,?_⟩
 rw [ht]
 have e0:Cu m s=(Gp m s&&(Ce s.Chans.length fun i=>CC m (s.Chans.getD i default))&&(Ce s.Procs.length fun i=>AP m (s.Procs.getD i default))&&FQ m s):=rfl
 generalize Cu m s=b at e0 ⊢
 refine ⟨fun h=>Ao ?_,fun h=>?_⟩
 ·rw [show Gp m s=false by simpa using h] at e0;rw [e0]<;>rfl
 rw [show Gp m s=true by simpa using h,Bool.true_and] at e0
 refine AD Ak Aj s.Chans.length (fun k=>NG m s k) (fun k=>∀ i,i<k->CC m (s.Chans.getD i default)=true) (by kernel_rfl) (by kernel_rfl) (fun i hi=>by omega) ?_
 intro k hk hI J next
 refine Bb.raw (Tl _ m s k J) ⟨fun hlt=>?_,fun hge=>?_⟩
 ·have hlt':k<s.Chans.length:=by have:=AQ hlt;omega
  refine ⟨⟨by omega,by omega⟩,CC m (s.Chans.getD k default),Sx (hs.cs _ (Au hlt')),fun hy=>Ao ?_,fun hy=>next _ hlt' (BE hI (by simpa using hy)) (Up.of ?_)⟩
  ·rw [Bo (f:=fun i=>CC m (s.Chans.getD i default)) hlt' (by simpa using hy)] at e0
   rw [e0]<;>rfl
  ·rw [Am (by omega)]<;>rfl
 have hge':s.Chans.length<=k:=by have:=AT hge;omega
 rw [(AL (n:=s.Chans.length) (f:=fun i=>CC m (s.Chans.getD i default))).2 fun i hi=>hI i (by omega),Bool.true_and] at e0
 clear hI next
 refine AD Ak Aj s.Procs.length (fun k=>NF m s k) (fun k=>∀ i,i<k->AP m (s.Procs.getD i default)=true) (by kernel_rfl) (by kernel_rfl) (fun i hi=>by omega) ?_
 intro k hk hI J next
 refine Bb.raw (Tk _ m s k J) ⟨fun hlt=>?_,fun hge=>?_⟩
 ·have hlt':k<s.Procs.length:=by have:=AQ hlt;omega
  refine ⟨⟨by omega,by omega⟩,AP m (s.Procs.getD k default),R4 (hs.ps _ (Au hlt')),fun hy=>Ao ?_,fun hy=>next _ hlt' (BE hI (by simpa using hy)) (Up.of ?_)⟩
  ·rw [Bo (f:=fun i=>AP m (s.Procs.getD i default)) hlt' (by simpa using hy)] at e0
   rw [e0]<;>rfl
  ·rw [Am (by omega)]<;>rfl
 have hge':s.Procs.length<=k:=by have:=AT hge;omega
 rw [(AL (n:=s.Procs.length) (f:=fun i=>AP m (s.Procs.getD i default))).2 fun i hi=>hI i (by omega),Bool.true_and] at e0
 unfold FQ at e0
 refine ⟨fun h2=>Ao ?_,fun h2=>⟨fun _=>⟨?_,hcl⟩,Ao ?_⟩⟩
 ·rw [h2,cond_true] at e0;rw [e0,ieq]
 ·have:=of_decide_eq_false h2;omega
 ·rw [h2,cond_false] at e0
  rw [e0,AM]<;>rfl
theorem Tj {m:D.Model} {s:D.State} (hs:A4 s) (hcl:m.Claim<m.Procs.length):Ai Tryz.prog 47 [] [.agg (Ae m),.agg (An s)] [] (Ac (Cu m s)):=by
 refine (Rz hs hcl).frz rfl fun j x y hx hy=>?_
 match j,hx,hy with
 | 0,hx,hy=>simp only [List.getElem?_cons_zero,Option.some.injEq] at hx hy;subst hx hy;exact C1 _
 | 1,hx,hy =>
  simp only [List.getElem?_cons_succ,List.getElem?_cons_zero,Option.some.injEq] at hx hy
  subst hx hy
  refine Yt rfl fun j x y hx hy=>?_
  match j,hx,hy with
  | 0,hx,hy=>simp only [An,Kf,List.getElem?_cons_zero,Option.some.injEq] at hx hy;subst hx hy;exact C1 _
  | 1,hx,hy=>simp only [An,Kf,List.getElem?_cons_succ,List.getElem?_cons_zero,Option.some.injEq] at hx hy;subst hx hy;exact My
  | 2,hx,hy=>simp only [An,Kf,List.getElem?_cons_succ,List.getElem?_cons_zero,Option.some.injEq] at hx hy;subst hx hy;exact My
  | 3,hx,hy=>simp only [An,Kf,List.getElem?_cons_succ,List.getElem?_cons_zero,Option.some.injEq] at hx hy;subst hx hy;exact C1 _
  | 4,hx,hy=>simp only [An,Kf,List.getElem?_cons_succ,List.getElem?_cons_zero,Option.some.injEq] at hx hy;subst hx hy;exact C1 _
  | 5,hx,hy=>simp only [An,Kf,List.getElem?_cons_succ,List.getElem?_cons_zero,Option.some.injEq] at hx hy;subst hx hy;exact C1 _
  | j+6,hx,hy=>simp [An] at hx
 | j+2,hx,hy=>simp at hx
theorem Ua {m:D.Model} (hw:Ay m):Ai Tryz.prog 46 [] [.agg (Ae m)] [] (Ac (FO m)) :=
 Ag Ak Aj Tryz.func46 (by kernel_rfl) rfl (AeP _ m) ⟨I8 m,XA hw,Ao (ieq _ _)⟩
theorem Hv {m:D.Model} {s:D.State} (hw:Ay m) (hs:A4 s) (hcl:FO m=true->m.Claim<m.Procs.length):Ai Tryz.prog 25 [] [.agg (Ae m),.agg (An s)] [] (Aa (CY m s)):=by
 refine Ag Ak Aj Tryz.func25 (by kernel_rfl) rfl (Tm _ m s) ⟨FO m,Ua hw,fun h=>BM ?_,fun h=>⟨Cu m s,Tj hs (hcl (by simpa using h)),fun h2=>BM ?_,fun h2=>BM ?_⟩⟩
 ·unfold CY;rw [show FO m=false by simpa using h]<;>rfl
 ·unfold CY;rw [show FO m=true by simpa using h,show Cu m s=false by simpa using h2]<;>rfl
 ·unfold CY;rw [show FO m=true by simpa using h,show Cu m s=true by simpa using h2]<;>rfl
theorem Fit.small {s:D.State} (h:Fit s):A4 s:=by
 have hg:=h.g
 have hc:=h.c
 have hp:=h.p
 refine ⟨by unfold Len;omega,by unfold Len;omega,by unfold Len;omega,fun c hc=>⟨by have:=(h.q c hc).1;unfold Len;omega,fun x hx=>by have:=(h.q c hc).2 x hx;unfold Len;omega⟩,fun p hp=>by have:=h.f p hp;unfold Len;omega⟩
theorem Tq {s:D.State} (h:N7 s):A4 s:=by
 have hg:=h.Globals.1
 have hc:=h.Chans.1
 have hp:=h.Procs.1
 refine ⟨by unfold Len;omega,by unfold Len;omega,by unfold Len;omega,fun c hc=>⟨by have:=(h.Chans.2 c hc).Queue.1;unfold Len;omega,fun x hx=>by have:=((h.Chans.2 c hc).Queue.2 x hx).1;unfold Len;omega⟩,fun p hp=>by have:=(h.Procs.2 p hp).Frame.1;unfold Len;omega⟩
theorem KJ {m:D.Model} {s:D.State} (h:CY m s=0):FO m=true/\Cu m s=true:=by
 unfold CY at h
 cases h1:FO m<;>cases h2:Cu m s<;>simp [h1,h2] at h ⊢
end Go.Proofs.YtiaebjpcgjkhoaaGreatDoor
namespace Go.Proofs.YtiaebjpcgjkhoaaGreatDoor
open Go.RowKit
structure BI (w w':World) (F:Nat->Prop):Prop where
 os:w'.os=w.os
 tape:w'.tape=w.tape
 output:w'.output=w.output
 size:w.heap.size<=w'.heap.size
 block:∀ k,k<w.heap.size->¬ F k->w'.heap[k]?=w.heap[k]?
theorem BI.refl (w:World) (F:Nat->Prop):BI w w F:=⟨rfl,rfl,rfl,Nat.le_refl _,fun _ _ _=>rfl⟩
theorem BI.drewN {w w':World} {F:Nat->Prop} (h:BI w w' F) (n:Nat):BI w (w'.drewN n) F:=⟨h.os,h.tape,h.output,h.size,h.block⟩
theorem BI.drew {w w':World} {F:Nat->Prop} (h:BI w w' F):BI w w'.drew F:=⟨h.os,h.tape,h.output,h.size,h.block⟩
theorem BI.alloc {w w':World} {F:Nat->Prop} (h:BI w w' F) (o:Obj):BI w (w'.alloc o) F :=
 ⟨h.os,h.tape,h.output,Nat.le_trans h.size (by simp),fun k hk hn=>(Below.heap_alloc w' o k (Nat.lt_of_lt_of_le hk h.size)).trans (h.block k hk hn)⟩
theorem BI.setCell {w w':World} {F:Nat->Prop} (h:BI w w' F) {p:Addr} (hp:F p.block∨w.heap.size<=p.block) (u:Value):BI w (w'.setCell p u) F :=
 ⟨h.os,h.tape,h.output,by simpa [World.setCell] using h.size,fun k hk hn =>
  (Below.heap_setCell w' p u k (by rintro rfl;rcases hp with hp | hp;exact hn hp;omega)).trans (h.block k hk hn)⟩
theorem BI.grown {w w' w'':World} {F:Nat->Prop} {row:Option Nat} (h:BI w w' F) (hg:w'.grownBy w'' row) (hr:∀ k,row=some k->F k∨w.heap.size<=k):BI w w'' F :=
 ⟨hg.os.trans h.os,hg.tape.trans h.tape,hg.output.trans h.output,Nat.le_trans h.size hg.size,fun k hk hn =>
  (hg.block k (Nat.lt_of_lt_of_le hk h.size) (fun e=>by rcases hr k e.symm with h1 | h1;exact hn h1;omega)).trans (h.block k hk hn)⟩
theorem BI.trans {a b c:World} {F G:Nat->Prop} (h:BI a b F) (k:BI b c G) (hG:∀ i,G i->F i∨a.heap.size<=i):BI a c F :=
 ⟨k.os.trans h.os,k.tape.trans h.tape,k.output.trans h.output,Nat.le_trans h.size k.size,fun i hi hn =>
  (k.block i (Nat.lt_of_lt_of_le hi h.size) (fun hg=>by rcases hG i hg with h1 | h1;exact hn h1;omega)).trans (h.block i hi hn)⟩
theorem BI.below {w w':World} {F:Nat->Prop} {B:Nat} (h:BI w w' F) (hB:B<=w.heap.size) (hF:∀ k,F k->B<=k):Below B w w' :=
 ⟨h.os,h.tape,h.output,h.size,fun k hk=>h.block k (Nat.lt_of_lt_of_le hk hB) (fun hf=>by have:=hF k hf;omega)⟩
theorem BI.of_below {w w':World} {F:Nat->Prop} (h:Below w.heap.size w w'):BI w w' F :=
 ⟨h.os,h.tape,h.output,h.size,fun k hk _=>h.block k hk⟩
theorem BI.mono {w w':World} {F G:Nat->Prop} (h:BI w w' F) (hFG:∀ k,F k->G k∨w.heap.size<=k):BI w w' G :=
 ⟨h.os,h.tape,h.output,h.size,fun k hk hn=>h.block k hk (fun hf=>by rcases hFG k hf with h1 | h1;exact hn h1;omega)⟩
theorem Cy {w w':World} {base:Nat} {e:TypeId} {size:Nat} {v:Value} {n:Nat} {xs:List Value} (h:w.ownsRow base e size v n xs)
  (hs:∀ k,v.ownBlock=some k->w'.heap[k]?=w.heap[k]?):w'.ownsRow base e size v n xs:=by
 refine ⟨h.1,?_⟩
 rcases h.2 with hn | ⟨g,cap,cur,rfl,hb,hg,rest⟩
 ·exact .inl hn
 ·exact .inr ⟨g,cap,cur,rfl,hb,by rw [hs g rfl];exact hg,rest⟩
theorem AU {w:World} {base:Nat} {e:TypeId} {size:Nat} {v:Value} {n:Nat} {xs:List Value} (h:w.ownsRow base e size v n xs) {k:Nat} (hk:v.ownBlock=some k):∃ cur,w.heap[k]?=some (.cells cur e (0,0)):=by
 rcases h.2 with ⟨rfl,_⟩ | ⟨g,cap,cur,rfl,hb,hg,rest⟩
 ·simp [Value.ownBlock] at hk
 ·simp [Value.ownBlock] at hk;subst hk;exact ⟨cur,hg⟩
theorem BQ {w:World} {b:Nat} {o:Obj} (h:w.heap[b]?=some o):b<w.heap.size:=lt_of_block h
theorem DN {w:World} {a b:Nat} {c d:Array Value} {s t:TypeId} {f g:Nat × Nat} (ha:w.heap[a]?=some (.cells c s f)) (hb:w.heap[b]?=some (.cells d t g)) (hst:s≠t):a≠b:=by
 rintro rfl;rw [ha] at hb;simp at hb;exact hst hb.2.1
theorem Ah {w:World} {b i:Nat} {cs:Array Value} {t:TypeId} {v:Value} (h:w.heap[b]?=some (.cells cs t (0,0))) (hi:cs[i]?=some v):w.cell? ⟨b,i,none⟩=some v:=by
 simp [World.cell?,h,hi]
theorem Aw {w:World} {b i:Nat} {cs:Array Value} {t:TypeId} (h:w.heap[b]?=some (.cells cs t (0,0))):w.frozen? ⟨b,i,none⟩=false:=by
 simp [World.frozen?,h]
theorem A3 {w:World} {b i:Nat} {cs:Array Value} {t:TypeId} (h:w.heap[b]?=some (.cells cs t (0,0))) (u:Value):(w.setCell ⟨b,i,none⟩ u).heap[b]?=some (.cells (cs.setIfInBounds i u) t (0,0)) :=
 heap_setCell_same w b i cs t u h
end Go.Proofs.YtiaebjpcgjkhoaaGreatDoor
namespace Go.Proofs.YtiaebjpcgjkhoaaGreatDoor
open Go.RowKit
theorem Cc {P:Program} {t:TypeId} {z:Value} {s b:Nat} (h:(P.info? t).map (fun i=>(i.zero,i.size,i.bytes))=some (some z,s,b)):∃ i,P.info? t=some i/\i.zero=some z/\i.size=s/\i.bytes=b:=by
 cases hi:P.info? t with
 | none=>rw [hi] at h;cases h
 | some i=>rw [hi] at h;simp only [Option.map_some,Option.some.injEq,Prod.mk.injEq] at h;exact ⟨i,rfl,h⟩
theorem I0 : (Tryz.prog.info? 2).map (fun i=>(i.zero,i.size,i.bytes))=some (some (.int .i64 0),1,8):=by kernel_rfl
theorem DR {w:World} {n0:Nat} {e:TypeId} {v:Value} {n:Nat} {xs:List Value} (h:w.ownsRow n0 e 1 v n xs) :
  ∃ ao cap,v=.slice ao n cap/\n<=cap/\cap<=maxLen/\(0<n->∃ g,ao=some ⟨g,0,none⟩/\n0<=g/\g<w.heap.size/\∀ j,j<n->w.cell? ⟨g,j,none⟩=xs[j]?):=by
 rcases h.2 with ⟨rfl,rfl⟩ | ⟨g,cap,cur,rfl,hb,hg,h1,h2,_⟩
 ·exact ⟨none,0,rfl,Nat.le_refl _,Nat.zero_le _,fun h=>by omega⟩
 ·exact ⟨_,cap,rfl,h1,h2,fun _=>⟨g,rfl,hb,BQ hg,fun j hj=>h.cellAt j (by omega)⟩⟩
theorem IE {w:World} {E:AR} {m:Option Phi} {n0:Nat} {v:Value} {xs:List Int} (h:w.ownsRow n0 2 1 v xs.length (xs.map (Value.int .i64))) (hA:∀ k,E.fz k->k<n0):V w E m (Ad true xs) v:=by
 obtain ⟨ao,cap,rfl,h1,h2,h3⟩:=DR h
 refine V.sl_mk h1 h2 fun hp=>?_
 obtain ⟨g,rfl,hg,hlt,hc⟩:=h3 hp
 refine ⟨g,0,rfl,hlt,fun hk=>by have:=hA g hk;omega,fun i _=>rfl,fun i _=>.int .i64 (xs.getD i 0),fun i j y hi hy=>?_,fun i j y hi hy=>?_⟩
 ·match j,hy with
  | 0,_ =>
   have:=hc i hi
   simp only [Nat.zero_add,Nat.mul_one,Nat.add_zero]
   rw [this];simp [List.getD,hi]
  | j+1,hy=>simp at hy
 ·match j,hy with
  | 0,hy=>simp only [List.getElem?_cons_zero,Option.some.injEq] at hy;subst hy;exact .sc
  | j+1,hy=>simp at hy
set_option maxHeartbeats 1000000 in
theorem Fh {w:World} {ao:Option Addr} {cap:Nat} {xs:List Int} (h1:xs.length<=cap) (h2:cap<=maxLen) (hr:xs.length*8<=140737488355328) (h3:0<xs.length->∃ a,ao=some a/\∀ i,i<xs.length->w.cell? (a.add i)=some (.int .i64 (xs.getD i 0))) :
  Calls Tryz.prog 34 #[.slice ao xs.length cap] w fun e w'=>∃ v',e=.returned v'/\w'.ownsRow w.heap.size 2 1 v' xs.length (xs.map (Value.int .i64))/\Below w.heap.size w w':=by
 have q22:∀ (w:World) (a:Option Addr) (n c n' c':Nat),(binOp .eql 23 (.slice a n c) (.slice none n' c')).run Tryz.prog w=.ok (.bool a.isNone) w:=fun w a n c n' c'=>Lib.run_eql_slice_nil w _ _ a n c n' c' Tryz.underlying23
 obtain ⟨ki,khi,khz0,khz1,khz2⟩:=Cc I0
 cases ao with
 | none =>
  have h0:xs=[]:=by
   apply List.eq_nil_of_length_eq_zero
   apply Classical.byContradiction
   intro hp
   obtain ⟨_,e,_⟩:=h3 (by omega)
   cases e
  subst h0
  clear h3
  go_enter Tryz.func34,Tryz.ntmps34
  go_wp2
  go_ret
  exact ⟨_,rfl,World.ownsRow_nil _ _ _ _,Below.refl _ _⟩
 | some a =>
  have hn:∀ (j:Nat) (u:Value),(xs.map (Value.int .i64))[j]?=some u->w.cell? (a.add j)=some u:=by
   intro j u hj
   have hjl:j<xs.length:=by have:=(List.getElem?_eq_some_iff.1 hj).1;simpa using this
   obtain ⟨a',e,hc⟩:=h3 (by omega)
   simp only [Option.some.injEq] at e
   subst e
   rw [hc j hjl,← hj];simp [List.getD,hjl]
  have HN:=Lib.hid hn
  clear h3 hn
  have hlen:=h2
  unfold maxLen at hlen
  go_enter Tryz.func34,Tryz.ntmps34
  go_wp2_with (at_builtin;refine wpList_append_own _ rfl _ _ 23 rfl w.heap.size 2 ki (.int .i64 0) 1 8 Tryz.underlying23 khi khz0 khz1 khz2 rfl (by decide) _ _ _ rfl (World.ownsRow_made w #[] 0 (Nat.le_refl _) (Nat.zero_le _) (by simp)) a xs.length cap (xs.map (Value.int .i64)) rfl ?qc1 ?qc2 ?qc3 ?qc4 ?qc5 ?qc6 ?_)
  case qc1=>simp
  case qc2=>intro j u hj;have:=HN.out j u hj;exact Lib.cell?_alloc_some _ this
  case qc3=>intro u hu;simp at hu;obtain ⟨x,_,rfl⟩:=hu;rfl
  case qc4=>unfold maxLen;omega
  case qc5=>omega
  case qc6=>simp
  intro v' w1 hown hgrow _
  go_wp2
  go_ret
  exact ⟨v',rfl,by simpa using hown,((Below.refl _ w).alloc (Nat.le_refl _) _).grown hgrow (by simp) (by intro k hk;simp [Value.ownBlock] at hk;omega)⟩
theorem Ps {xs:List Int} (hr:xs.length*8<=140737488355328):Ai Tryz.prog 34 [] [Ad true xs] [] (Ad true xs):=by
 refine Ai.hand ⟨_,Tryz.func34,rfl,by kernel_rfl⟩ fun w E vs hA hL _ _ hs=>?_
 obtain ⟨u1,us1,rfl,v1,hs⟩:=hs.cons_inv
 obtain rfl:=hs.nil_inv
 obtain ⟨ao,cap,rfl,h1,h2,h3⟩:=V.sl_inv v1
 refine (Fh h1 h2 hr fun hp=>?_).mono ?_
 ·obtain ⟨b,off,rfl,_,_,_,u,hc,hv⟩:=h3 hp
  refine ⟨_,rfl,fun i hi=>?_⟩
  have c1:=hc i 0 _ hi rfl
  have c2:=(hv i 0 _ hi rfl).sc_inv
  rw [Addr.add_lit]
  rw [c2] at c1
  simpa using c1
 ·rintro e w' ⟨v',rfl,ho,hb⟩
  exact ⟨v',rfl,IE ho hA,hb⟩
end Go.Proofs.YtiaebjpcgjkhoaaGreatDoor
namespace Go.Proofs.YtiaebjpcgjkhoaaGreatDoor
open Go.RowKit
def CU (f:FuncId):Shp :=
 bif Nat.beq f 51||Nat.beq f 147||Nat.beq f 100||Nat.beq f 91 then ZR
 else bif Nat.beq f 39||Nat.beq f 92||Nat.beq f 84||Nat.beq f 116||Nat.beq f 118||Nat.beq f 82||Nat.beq f 83||Nat.beq f 86||Nat.beq f 81||Nat.beq f 117||Nat.beq f 87||Nat.beq f 52||Nat.beq f 120||Nat.beq f 121 then Acu
 else bif Nat.beq f 80 then RO
 else bif Nat.beq f 34||Nat.beq f 35 then Aet else Kr f
end Go.Proofs.YtiaebjpcgjkhoaaGreatDoor
namespace Go.Proofs.YtiaebjpcgjkhoaaGreatDoor
open Go.RowKit
abbrev DI : TypeId:=2
abbrev Gj : TypeId:=83
abbrev DH : TypeId:=80
abbrev DX : TypeId:=50
abbrev BK : TypeId:=33
theorem Gn : (Tryz.prog.info? Gj).map (fun i=>(i.zero,i.size,i.bytes))=some (some (.slice none 0 0),1,24):=by kernel_rfl
theorem Aa5 : (Tryz.prog.info? DH).map (fun i=>(i.zero,i.size,i.bytes))=some (some (.agg #[.int .i64 0,.slice none 0 0]),2,32):=by kernel_rfl
theorem Aa4 : (Tryz.prog.info? DX).map (fun i=>(i.zero,i.size,i.bytes))=some (some (.agg #[.int .i64 0,.int .i64 0,.int .i64 0,.slice none 0 0]),4,48):=by kernel_rfl
abbrev Im (w:World) (n0:Nat) (v:Value) (xs:List Int):Prop:=w.ownsRow n0 DI 1 v xs.length (xs.map (Value.int .i64))
structure BR (w:World) (n0:Nat) (v:Value) (vs:List Value) (q:List (List Int)):Prop where
 row:w.ownsRow n0 Gj 1 v q.length vs
 len:vs.length=q.length
 each:∀ (i:Nat) (u:Value) (m:List Int),vs[i]?=some u->q[i]?=some m->Im w n0 u m
def ED : List D.Chan->List Value->List Value
 | c::cs,q::qs=>.int .i64 c.Shape::q::ED cs qs
 | _,_=>[]
def Dg : List D.Process->List Value->List Value
 | p::ps,f::fs=>.int .i64 p.Type_::.int .i64 p.Loc::.int .i64 p.Prio::f::Dg ps fs
 | _,_=>[]
structure Fp (w:World) (n0:Nat) (v:Value) (qs:List Value) (cs:List D.Chan):Prop where
 row:w.ownsRow n0 DH 2 v cs.length (ED cs qs)
 len:qs.length=cs.length
 each:∀ (i:Nat) (u:Value) (c:D.Chan),qs[i]?=some u->cs[i]?=some c->∃ vs,BR w n0 u vs c.Queue
structure D9 (w:World) (n0:Nat) (v:Value) (fs:List Value) (ps:List D.Process):Prop where
 row:w.ownsRow n0 DX 4 v ps.length (Dg ps fs)
 len:fs.length=ps.length
 each:∀ (i:Nat) (u:Value) (p:D.Process),fs[i]?=some u->ps[i]?=some p->Im w n0 u p.Frame
 apart:∀ (i j:Nat) (u v:Value) (k:Nat),i<j->fs[i]?=some u->fs[j]?=some v->u.ownBlock=some k->v.ownBlock≠some k
section
variable {w w':World} {n0 n1:Nat}
theorem CF {e:TypeId} {sz:Nat} {v:Value} {n:Nat} {xs:List Value} (h:w.ownsRow n0 e sz v n xs) :
  ∃ ao cap,v=.slice ao n cap/\n<=cap/\cap<=maxLen/\(0<n->∃ g,ao=some ⟨g,0,none⟩/\n0<=g/\g<w.heap.size/\∀ j,j<n*sz->w.cell? ⟨g,j,none⟩=xs[j]?):=by
 rcases h.2 with ⟨rfl,rfl⟩ | ⟨g,cap,cur,rfl,hb,hg,h1,h2,_⟩
 ·exact ⟨none,0,rfl,Nat.le_refl _,Nat.zero_le _,fun h=>by omega⟩
 ·exact ⟨_,cap,rfl,h1,h2,fun _=>⟨g,rfl,hb,BQ hg,fun j hj=>h.cellAt j hj⟩⟩
theorem Cb {e:TypeId} {sz:Nat} {v:Value} {n:Nat} {xs:List Value} (h:w.ownsRow n0 e sz v n xs) (hb:n1<=n0):w.ownsRow n1 e sz v n xs :=
 ⟨h.1,h.2.imp id fun ⟨g,cap,cur,e,h1,h2⟩=>⟨g,cap,cur,e,Nat.le_trans hb h1,h2⟩⟩
abbrev B9 (w w':World) (n0:Nat) (ts:List TypeId):Prop:=∀ (k:Nat) (cur:Array Value) (t:TypeId),n0<=k->k<w.heap.size->w.heap[k]?=some (.cells cur t (0,0))->t∈ts->w'.heap[k]?=w.heap[k]?
theorem B6 {e:TypeId} {sz:Nat} {v:Value} {n:Nat} {xs:List Value} {ts:List TypeId} (h:w.ownsRow n0 e sz v n xs) (hk:B9 w w' n0 ts) (he:e∈ts):w'.ownsRow n0 e sz v n xs :=
 Cy h fun k e1=>by
  obtain ⟨cur,hc⟩:=AU h e1
  exact hk k cur e (h.lt k e1).1 (h.lt k e1).2 hc he
theorem BR.kept {v:Value} {vs:List Value} {q:List (List Int)} {ts:List TypeId} (h:BR w n0 v vs q) (hk:B9 w w' n0 ts) (h1:Gj∈ts) (h2:DI∈ts):BR w' n0 v vs q :=
 ⟨B6 h.row hk h1,h.len,fun i u m hu hm=>B6 (h.each i u m hu hm) hk h2⟩
theorem Fp.kept {v:Value} {qs:List Value} {cs:List D.Chan} {ts:List TypeId} (h:Fp w n0 v qs cs) (hk:B9 w w' n0 ts) (h0:DH∈ts) (h1:Gj∈ts) (h2:DI∈ts):Fp w' n0 v qs cs :=
 ⟨B6 h.row hk h0,h.len,fun i u c hu hc=>by obtain ⟨vs,hq⟩:=h.each i u c hu hc;exact ⟨vs,hq.kept hk h1 h2⟩⟩
theorem D9.kept {v:Value} {fs:List Value} {ps:List D.Process} {ts:List TypeId} (h:D9 w n0 v fs ps) (hk:B9 w w' n0 ts) (h0:DX∈ts) (h2:DI∈ts):D9 w' n0 v fs ps :=
 ⟨B6 h.row hk h0,h.len,fun i u p hu hp=>B6 (h.each i u p hu hp) hk h2,h.apart⟩
theorem BR.base {v:Value} {vs:List Value} {q:List (List Int)} (h:BR w n0 v vs q) (hb:n1<=n0):BR w n1 v vs q :=
 ⟨Cb h.row hb,h.len,fun i u m hu hm=>Cb (h.each i u m hu hm) hb⟩
theorem B9.of {ts:List TypeId} (h:∀ k,n0<=k->k<w.heap.size->w'.heap[k]?=w.heap[k]?):B9 w w' n0 ts:=fun k _ _ h0 h1 _ _=>h k h0 h1
theorem B9.below {ts:List TypeId} (h:Below w.heap.size w w'):B9 w w' n0 ts:=B9.of fun k _ hk=>h.block k hk
theorem B9.alloc {ts:List TypeId} (o:Obj):B9 w (w.alloc o) n0 ts:=B9.of fun _ _ hk=>Below.heap_alloc _ _ _ hk
theorem B9.drewN {ts:List TypeId} (n:Nat):B9 w (w.drewN n) n0 ts:=B9.of fun _ _ _=>rfl
theorem B9.grown {e:TypeId} {sz:Nat} {v:Value} {n:Nat} {xs:List Value} {ts:List TypeId} (hg:w.grownBy w' v.ownBlock) (hr:w.ownsRow n1 e sz v n xs) (he:e ∉ ts):B9 w w' n0 ts:=fun k cur t _ h1 hk ht =>
 hg.block k h1 fun e1=>by
  obtain ⟨c2,e2⟩:=AU hr e1.symm
  exact DN hk e2 (by rintro rfl;exact he ht) rfl
theorem B9.set {ts:List TypeId} {b i:Nat} {c:Array Value} {t:TypeId} {f:Nat × Nat} {u:Value} (hb:w.heap[b]?=some (.cells c t f)) (ht:t ∉ ts):B9 w (w.setCell ⟨b,i,none⟩ u) n0 ts:=fun k cur t' _ _ hk ht' =>
 Below.heap_setCell _ _ _ _ (by rintro rfl;exact DN hk hb (by rintro rfl;exact ht ht') rfl)
theorem B9.low {ts:List TypeId} {b i:Nat} {u:Value} (hb:b<n0):B9 w (w.setCell ⟨b,i,none⟩ u) n0 ts:=B9.of fun k h0 _=>Below.heap_setCell _ _ _ _ (by rintro rfl;omega)
theorem B9.trans {w'':World} {ts:List TypeId} (h:B9 w w' n0 ts) (k:B9 w' w'' n0 ts) (hs:w.heap.size<=w'.heap.size):B9 w w'' n0 ts:=fun b cur t h0 h1 hb ht=>by
 have e:=h b cur t h0 h1 hb ht
 exact (k b cur t h0 (Nat.lt_of_lt_of_le h1 hs) (e.trans hb) ht).trans e
theorem BR.nil (w:World) (n0:Nat):BR w n0 (.slice none 0 0) [] []:=⟨World.ownsRow_nil _ _ _ _,rfl,fun i x m h=>by simp at h⟩
theorem Fp.nil (w:World) (n0:Nat):Fp w n0 (.slice none 0 0) [] []:=⟨World.ownsRow_nil _ _ _ _,rfl,fun i x m h=>by simp at h⟩
theorem D9.nil (w:World) (n0:Nat):D9 w n0 (.slice none 0 0) [] []:=⟨World.ownsRow_nil _ _ _ _,rfl,fun i x m h=>by simp at h,fun i j u v k _ h=>by simp at h⟩
theorem ME {α:Type} {R:Value->α->Prop} {vs:List Value} {l:List α} {u:Value} {a:α} (hl:vs.length=l.length) (h:∀ (i:Nat) x y,vs[i]?=some x->l[i]?=some y->R x y) (h2:R u a):∀ (i:Nat) x y,(vs++[u])[i]?=some x->(l++[a])[i]?=some y->R x y:=by
 intro i x y hx hy
 by_cases hi:i<l.length
 ·rw [List.getElem?_append_left (by rw [hl];exact hi)] at hx
  rw [List.getElem?_append_left hi] at hy
  exact h i x y hx hy
 ·have hil:i<l.length+1:=by have:=(List.getElem?_eq_some_iff.1 hy).1;simpa using this
  obtain rfl:i=l.length:=by omega
  rw [List.getElem?_append_right (Nat.le_refl _)] at hy
  rw [List.getElem?_append_right (by rw [hl];exact Nat.le_refl _)] at hx
  simp [hl] at hx hy
  subst hx hy
  exact h2
theorem BR.more {v v' u:Value} {vs:List Value} {q:List (List Int)} {m:List Int} (h:BR w n0 v vs q) (hm:Im w n0 u m)
  (hr:w'.ownsRow n0 Gj 1 v' (q.length+1) (vs++[u])) (hg:w.grownBy w' v.ownBlock):BR w' n0 v' (vs++[u]) (q++[m]):=by
 have hk:B9 w w' n0 [DI]:=B9.grown hg h.row (by decide)
 exact ⟨by simpa using hr,by simp [h.len],ME (R:=Im w' n0) h.len (fun i x l hx hl=>B6 (h.each i x l hx hl) hk (by simp)) (B6 hm hk (by simp))⟩
theorem Ni : ∀ {cs:List D.Chan} {qs:List Value} {c:D.Chan} {q:Value},qs.length=cs.length->ED (cs++[c]) (qs++[q])=ED cs qs++[.int .i64 c.Shape,q]
 | [],[],c,q,_=>rfl
 | d::cs,r::qs,c,q,h=>by
  have:=Ni (cs:=cs) (qs:=qs) (c:=c) (q:=q) (by simpa using h)
  simp only [List.cons_append,ED,this]
 | [],_::_,_,_,h=>by simp at h
 | _::_,[],_,_,h=>by simp at h
theorem Nh : ∀ {ps:List D.Process} {fs:List Value} {p:D.Process} {f:Value},fs.length=ps.length->Dg (ps++[p]) (fs++[f])=Dg ps fs++[.int .i64 p.Type_,.int .i64 p.Loc,.int .i64 p.Prio,f]
 | [],[],_,_,_=>rfl
 | d::ps,r::fs,p,f,h=>by
  have:=Nh (ps:=ps) (fs:=fs) (p:=p) (f:=f) (by simpa using h)
  simp only [List.cons_append,Dg,this]
 | [],_::_,_,_,h=>by simp at h
 | _::_,[],_,_,h=>by simp at h
theorem Fp.more {v v' u:Value} {qs vs:List Value} {cs:List D.Chan} {c:D.Chan} (h:Fp w n0 v qs cs) (hq:BR w n0 u vs c.Queue)
  (hr:w'.ownsRow n0 DH 2 v' (cs.length+1) (ED cs qs++[.int .i64 c.Shape,u])) (hg:w.grownBy w' v.ownBlock):Fp w' n0 v' (qs++[u]) (cs++[c]):=by
 have hk:B9 w w' n0 [Gj,DI]:=B9.grown hg h.row (by decide)
 refine ⟨by rw [Ni h.len];simpa using hr,by simp [h.len],ME (R:=fun u c=>∃ vs,BR w' n0 u vs c.Queue) h.len (fun i x l hx hl=>?_) ⟨vs,hq.kept hk (by simp) (by simp)⟩⟩
 obtain ⟨vs,hv⟩:=h.each i x l hx hl
 exact ⟨vs,hv.kept hk (by simp) (by simp)⟩
theorem D9.more {v v' u:Value} {fs:List Value} {ps:List D.Process} {p:D.Process} (h:D9 w n0 v fs ps) (hf:Im w n0 u p.Frame) (hnew:∀ (i:Nat) (x:Value) (k:Nat),fs[i]?=some x->x.ownBlock=some k->u.ownBlock≠some k)
  (hr:w'.ownsRow n0 DX 4 v' (ps.length+1) (Dg ps fs++[.int .i64 p.Type_,.int .i64 p.Loc,.int .i64 p.Prio,u])) (hg:w.grownBy w' v.ownBlock):D9 w' n0 v' (fs++[u]) (ps++[p]):=by
 have hk:B9 w w' n0 [DI]:=B9.grown hg h.row (by decide)
 refine ⟨by rw [Nh h.len];simpa using hr,by simp [h.len],ME (R:=fun u p=>Im w' n0 u p.Frame) h.len (fun i x l hx hl=>B6 (h.each i x l hx hl) hk (by simp)) (B6 hf hk (by simp)),?_⟩
 intro i j x y k hij hx hy ex
 have hj:j<fs.length+1:=by have:=(List.getElem?_eq_some_iff.1 hy).1;simpa using this
 rw [List.getElem?_append_left (by omega)] at hx
 by_cases hjl:j<fs.length
 ·rw [List.getElem?_append_left hjl] at hy
  exact h.apart i j x y k hij hx hy ex
 ·obtain rfl:j=fs.length:=by omega
  rw [List.getElem?_append_right (Nat.le_refl _)] at hy
  simp at hy
  subst hy
  exact hnew i x k hx ex
theorem KK : ∀ {cs:List D.Chan} {qs:List Value} {i:Nat},qs.length=cs.length->i<cs.length->(ED cs qs)[i*2]?=some (.int .i64 (cs.getD i default).Shape)/\(ED cs qs)[i*2+1]?=qs[i]?
 | d::cs,r::qs,0,_,_=>⟨rfl,rfl⟩
 | d::cs,r::qs,i+1,h,hi=>by
  have:=KK (cs:=cs) (qs:=qs) (i:=i) (by simpa using h) (by simpa using hi)
  rw [show (i+1)*2=i*2+2 by omega]
  simpa [ED] using this
 | [],_,_,_,h=>by simp at h
 | _::_,[],_,h,_=>by simp at h
theorem Ig : ∀ {ps:List D.Process} {fs:List Value} {i:Nat},fs.length=ps.length->i<ps.length->(Dg ps fs)[i*4]?=some (.int .i64 (ps.getD i default).Type_)/\(Dg ps fs)[i*4+1]?=some (.int .i64 (ps.getD i default).Loc)/\(Dg ps fs)[i*4+2]?=some (.int .i64 (ps.getD i default).Prio)/\(Dg ps fs)[i*4+3]?=fs[i]?
 | d::ps,r::fs,0,_,_=>⟨rfl,rfl,rfl,rfl⟩
 | d::ps,r::fs,i+1,h,hi=>by
  have:=Ig (ps:=ps) (fs:=fs) (i:=i) (by simpa using h) (by simpa using hi)
  rw [show (i+1)*4=i*4+4 by omega]
  simpa [Dg] using this
 | [],_,_,_,h=>by simp at h
 | _::_,[],_,h,_=>by simp at h
variable {E : AR} {m:Option Phi}
theorem AfN {v:Value} {vs:List Value} {q:List (List Int)} (h:BR w n0 v vs q) (hA:∀ k,E.fz k->k<n0):V w E m (Bx true q) v:=by
 obtain ⟨ao,cap,rfl,h1,h2,h3⟩:=CF h.row
 refine V.sl_mk h1 h2 fun hp=>?_
 obtain ⟨g,rfl,hg,hlt,hc⟩:=h3 hp
 refine ⟨g,0,rfl,hlt,fun hk=>by have:=hA g hk;omega,fun i _=>rfl,fun i _=>vs.getD i undef,fun i j y hi hy=>?_,fun i j y hi hy=>?_⟩
 ·match j,hy with
  | 0,_ =>
   have:=hc i (by omega)
   have hv:i<vs.length:=by rw [h.len];exact hi
   simp only [Nat.zero_add,Nat.mul_one,Nat.add_zero]
   rw [this];simp [List.getD,hv]
  | j+1,hy=>simp at hy
 ·match j,hy with
  | 0,hy =>
   simp only [List.getElem?_cons_zero,Option.some.injEq] at hy;subst hy
   have hv:i<vs.length:=by rw [h.len];exact hi
   exact IE (h.each i _ _ (by simp [List.getD,hv]) (by simp [List.getD,hi])) fun k hk=>hA k (by exact hk)
  | j+1,hy=>simp at hy
theorem AfP {v:Value} {qs:List Value} {cs:List D.Chan} (h:Fp w n0 v qs cs) (hA:∀ k,E.fz k->k<n0):V w E m (Bg true cs) v:=by
 obtain ⟨ao,cap,rfl,h1,h2,h3⟩:=CF h.row
 refine V.sl_mk h1 h2 fun hp=>?_
 obtain ⟨g,rfl,hg,hlt,hc⟩:=h3 hp
 refine ⟨g,0,rfl,hlt,fun hk=>by have:=hA g hk;omega,fun i _=>rfl,fun i j=>if j=0 then .int .i64 (cs.getD i default).Shape else qs.getD i undef,fun i j y hi hy=>?_,fun i j y hi hy=>?_⟩
 ·have hv:i<qs.length:=by rw [h.len];exact hi
  obtain ⟨c0,c1⟩:=KK h.len hi
  match j,hy with
  | 0,_=>rw [Nat.zero_add,Nat.add_zero,hc _ (by omega),c0];rfl
  | 1,_=>rw [Nat.zero_add,hc _ (by omega),c1];simp [List.getD,hv]
  | j+2,hy=>simp [AF] at hy
 ·have hv:i<qs.length:=by rw [h.len];exact hi
  match j,hy with
  | 0,hy=>simp only [AF,List.getElem?_cons_zero,Option.some.injEq] at hy;subst hy;exact .sc
  | 1,hy =>
   simp only [AF,List.getElem?_cons_succ,List.getElem?_cons_zero,Option.some.injEq] at hy;subst hy
   obtain ⟨vs,hq⟩:=h.each i (qs.getD i undef) (cs.getD i default) (by simp [List.getD,hv]) (by simp [List.getD,hi])
   exact AfN hq fun k hk=>hA k (by exact hk)
  | j+2,hy=>simp [AF] at hy
theorem AfO {v:Value} {fs:List Value} {ps:List D.Process} (h:D9 w n0 v fs ps) (hA:∀ k,E.fz k->k<n0):V w E m (AW true ps) v:=by
 obtain ⟨ao,cap,rfl,h1,h2,h3⟩:=CF h.row
 refine V.sl_mk h1 h2 fun hp=>?_
 obtain ⟨g,rfl,hg,hlt,hc⟩:=h3 hp
 refine ⟨g,0,rfl,hlt,fun hk=>by have:=hA g hk;omega,fun i _=>rfl,fun i j=>(#[.int .i64 (ps.getD i default).Type_,.int .i64 (ps.getD i default).Loc,.int .i64 (ps.getD i default).Prio,fs.getD i undef]:Array Value).getD j undef,fun i j y hi hy=>?_,fun i j y hi hy=>?_⟩
 ·have hv:i<fs.length:=by rw [h.len];exact hi
  obtain ⟨c0,c1,c2,c3⟩:=Ig h.len hi
  match j,hy with
  | 0,_=>rw [Nat.zero_add,Nat.add_zero,hc _ (by omega),c0];rfl
  | 1,_=>rw [Nat.zero_add,hc _ (by omega),c1];rfl
  | 2,_=>rw [Nat.zero_add,hc _ (by omega),c2];rfl
  | 3,_=>rw [Nat.zero_add,hc _ (by omega),c3];simp [List.getD,hv]
  | j+4,hy=>simp [As] at hy
 ·have hv:i<fs.length:=by rw [h.len];exact hi
  match j,hy with
  | 0,hy=>simp only [As,List.getElem?_cons_zero,Option.some.injEq] at hy;subst hy;exact .sc
  | 1,hy=>simp only [As,List.getElem?_cons_succ,List.getElem?_cons_zero,Option.some.injEq] at hy;subst hy;exact .sc
  | 2,hy=>simp only [As,List.getElem?_cons_succ,List.getElem?_cons_zero,Option.some.injEq] at hy;subst hy;exact .sc
  | 3,hy =>
   simp only [As,List.getElem?_cons_succ,List.getElem?_cons_zero,Option.some.injEq] at hy;subst hy
   exact IE (h.each i (fs.getD i undef) (ps.getD i default) (by simp [List.getD,hv]) (by simp [List.getD,hi])) fun k hk=>hA k (by exact hk)
  | j+4,hy=>simp [As] at hy
end
theorem Yd {w:World} {n0 g cap k:Nat} {xs:List Int} (h:Im w n0 (.slice (some ⟨g,0,none⟩) xs.length cap) xs) (x:Int):Im (w.setCell ⟨g,k,none⟩ (.int .i64 x)) n0 (.slice (some ⟨g,0,none⟩) (xs.set k x).length cap) (xs.set k x):=by
 refine ⟨by simp,?_⟩
 rcases h.2 with ⟨e,_⟩ | ⟨g',cap',cur,e,hb,hg,h1,h2,h3,h4⟩
 ·simp at e
 ·simp at e
  obtain ⟨rfl,rfl⟩:=e
  refine .inr ⟨g,cap,cur.setIfInBounds k (.int .i64 x),by simp,hb,A3 hg _,by simpa using h1,h2,by simpa using h3,?_⟩
  rw [Array.toList_setIfInBounds,List.take_set,List.map_set,List.length_set,h4]
theorem Pt : ∀ {ps:List D.Process} {fs:List Value} {i:Nat} {p':D.Process},p'.Type_=(ps.getD i default).Type_->p'.Loc=(ps.getD i default).Loc->p'.Prio=(ps.getD i default).Prio->Dg (ps.set i p') fs=Dg ps fs
 | [],_,_,_,_,_,_=>rfl
 | p::ps,[],0,_,_,_,_=>rfl
 | p::ps,[],i+1,_,_,_,_=>rfl
 | p::ps,f::fs,0,p',h1,h2,h3=>by
  have e1:p'.Type_=p.Type_:=h1
  have e2:p'.Loc=p.Loc:=h2
  have e3:p'.Prio=p.Prio:=h3
  simp only [List.set_cons_zero,Dg,e1,e2,e3]
 | p::ps,f::fs,i+1,p',h1,h2,h3=>by
  have:=Pt (ps:=ps) (fs:=fs) (i:=i) (p':=p') h1 h2 h3
  simp only [List.set_cons_succ,Dg,this]
theorem D9.write {w:World} {n0 g cap k i:Nat} {v:Value} {fs:List Value} {ps:List D.Process} (h:D9 w n0 v fs ps) (hi:i<ps.length) (hf:fs[i]?=some (.slice (some ⟨g,0,none⟩) (ps.getD i default).Frame.length cap)) (x:Int) :
  D9 (w.setCell ⟨g,k,none⟩ (.int .i64 x)) n0 v fs (ps.set i { ps.getD i default with Frame:=(ps.getD i default).Frame.set k x }):=by
 have hpi:ps[i]?=some (ps.getD i default):=by simp [List.getD,hi]
 have hr:=h.each i _ _ hf hpi
 obtain ⟨cur,hblk⟩:=AU hr (k:=g) rfl
 have hk:B9 w (w.setCell ⟨g,k,none⟩ (.int .i64 x)) n0 [DX]:=B9.set hblk (by decide)
 refine ⟨by rw [Pt (p':={ ps.getD i default with Frame:=(ps.getD i default).Frame.set k x }) rfl rfl rfl,List.length_set];exact B6 h.row hk (by simp),by simp [h.len],fun j u p hu hp=>?_,h.apart⟩
 by_cases hij:i=j
 ·subst hij
  rw [hf] at hu
  simp only [Option.some.injEq] at hu
  subst hu
  rw [List.getElem?_set_self hi] at hp
  simp only [Option.some.injEq] at hp
  subst hp
  have:=Yd (k:=k) hr x
  simpa using this
 ·rw [List.getElem?_set_ne hij] at hp
  refine Cy (h.each j u p hu hp) fun b hb=>Below.heap_setCell _ _ _ _ ?_
  rintro rfl
  rcases Nat.lt_or_gt_of_ne hij with hl | hl
  ·exact h.apart i j _ _ _ hl hf hu rfl hb
  ·exact h.apart j i _ _ _ hl hu hf hb rfl
end Go.Proofs.YtiaebjpcgjkhoaaGreatDoor
namespace Go.Proofs.YtiaebjpcgjkhoaaGreatDoor
open Go.RowKit
def AtL (w:World) (n:Nat) (R:Nat->Nat->Nat->Prop) (v:Value):Prop :=
 ∃ ao cap,v=.slice ao n cap/\n<=cap/\cap<=maxLen/\(0<n->∃ b off,ao=some ⟨b,off,none⟩/\b<w.heap.size/\∀ i,i<n->R b off i)
def AtI (w:World) (xs:List Int) (v:Value):Prop:=AtL w xs.length (fun b off i=>w.cell? ⟨b,off+i,none⟩=some (.int .i64 (xs.getD i 0))) v
def AtQ (w:World) (q:List (List Int)) (v:Value):Prop:=AtL w q.length (fun b off i=>∃ u,w.cell? ⟨b,off+i,none⟩=some u/\AtI w (q.getD i []) u) v
def AtC (w:World) (cs:List D.Chan) (v:Value):Prop :=
 AtL w cs.length (fun b off i=>∃ u,w.cell? ⟨b,off+i*2,none⟩=some (.int .i64 (cs.getD i default).Shape)/\w.cell? ⟨b,off+i*2+1,none⟩=some u/\AtQ w (cs.getD i default).Queue u) v
def AtP (w:World) (ps:List D.Process) (v:Value):Prop :=
 AtL w ps.length (fun b off i=>∃ u,w.cell? ⟨b,off+i*4,none⟩=some (.int .i64 (ps.getD i default).Type_)/\w.cell? ⟨b,off+i*4+1,none⟩=some (.int .i64 (ps.getD i default).Loc)/\w.cell? ⟨b,off+i*4+2,none⟩=some (.int .i64 (ps.getD i default).Prio)/\w.cell? ⟨b,off+i*4+3,none⟩=some u/\AtI w (ps.getD i default).Frame u) v
section
variable {w : World} {E:AR} {m:Option Phi} {v:Value} {fz:Bool}
theorem Afh {xs:List Int} (h:V w E m (Ad fz xs) v):AtI w xs v:=by
 obtain ⟨ao,cap,rfl,h1,h2,h3⟩:=V.sl_inv h
 refine ⟨ao,cap,rfl,h1,h2,fun hp=>?_⟩
 obtain ⟨b,off,rfl,hb,_,_,u,hc,hv⟩:=h3 hp
 refine ⟨b,off,rfl,hb,fun i hi=>?_⟩
 have c1:=hc i 0 _ hi rfl
 have c2:=(hv i 0 _ hi rfl).sc_inv
 rw [c2] at c1
 simpa using c1
theorem Ahx {q:List (List Int)} (h:V w E m (Bx fz q) v):AtQ w q v:=by
 obtain ⟨ao,cap,rfl,h1,h2,h3⟩:=V.sl_inv h
 refine ⟨ao,cap,rfl,h1,h2,fun hp=>?_⟩
 obtain ⟨b,off,rfl,hb,_,_,u,hc,hv⟩:=h3 hp
 refine ⟨b,off,rfl,hb,fun i hi=>⟨u i 0,?_,Afh (hv i 0 _ hi rfl)⟩⟩
 have c1:=hc i 0 _ hi rfl
 simpa using c1
theorem AhA {cs:List D.Chan} (h:V w E m (Bg fz cs) v):AtC w cs v:=by
 obtain ⟨ao,cap,rfl,h1,h2,h3⟩:=V.sl_inv h
 refine ⟨ao,cap,rfl,h1,h2,fun hp=>?_⟩
 obtain ⟨b,off,rfl,hb,_,_,u,hc,hv⟩:=h3 hp
 refine ⟨b,off,rfl,hb,fun i hi=>⟨u i 1,?_,?_,Ahx (hv i 1 _ hi rfl)⟩⟩
 ·have c1:=hc i 0 _ hi rfl
  have c2:=(hv i 0 _ hi rfl).sc_inv
  rw [c2] at c1
  simpa using c1
 ·exact hc i 1 _ hi rfl
theorem Ahy {ps:List D.Process} (h:V w E m (AW fz ps) v):AtP w ps v:=by
 obtain ⟨ao,cap,rfl,h1,h2,h3⟩:=V.sl_inv h
 refine ⟨ao,cap,rfl,h1,h2,fun hp=>?_⟩
 obtain ⟨b,off,rfl,hb,_,_,u,hc,hv⟩:=h3 hp
 refine ⟨b,off,rfl,hb,fun i hi=>⟨u i 3,?_,?_,?_,?_,Afh (hv i 3 _ hi rfl)⟩⟩
 ·have c1:=hc i 0 _ hi rfl
  have c2:=(hv i 0 _ hi rfl).sc_inv
  rw [c2] at c1
  simpa using c1
 ·have c1:=hc i 1 _ hi rfl
  have c2:=(hv i 1 _ hi rfl).sc_inv
  rw [c2] at c1
  simpa using c1
 ·have c1:=hc i 2 _ hi rfl
  have c2:=(hv i 2 _ hi rfl).sc_inv
  rw [c2] at c1
  simpa using c1
 ·exact hc i 3 _ hi rfl
end
theorem AtL.map {w w':World} {n:Nat} {R S:Nat->Nat->Nat->Prop} {v:Value} (h:AtL w n R v) (hs:w.heap.size<=w'.heap.size) (hR:∀ b off i,b<w.heap.size->i<n->R b off i->S b off i):AtL w' n S v:=by
 obtain ⟨ao,cap,rfl,h1,h2,h3⟩:=h
 refine ⟨ao,cap,rfl,h1,h2,fun hp=>?_⟩
 obtain ⟨b,off,rfl,hb,hc⟩:=h3 hp
 exact ⟨b,off,rfl,by omega,fun i hi=>hR b off i hb hi (hc i hi)⟩
theorem AtI.below {w w':World} {xs:List Int} {v:Value} (h:AtI w xs v) (hb:Below w.heap.size w w'):AtI w' xs v :=
 AtL.map h hb.size fun b off i hl _ hc=>by rw [hb.cell (p:=⟨b,off+i,none⟩) hl];exact hc
end Go.Proofs.YtiaebjpcgjkhoaaGreatDoor
namespace Go.Proofs.YtiaebjpcgjkhoaaGreatDoor
open Go.RowKit
section
variable {P : Program} {fn:Func} {R:Ending->World->Prop} {a:Act} {w:World} {p u x:Tmp} {ty t:TypeId} {g:Nat} {cs:Array Value} {fr:Nat × Nat} {d:TypeDesc}
theorem QA (h:fn.results=#[.cell p ty]) (hp:a.tmps.getD p undef=.pointer (some ⟨g,0,none⟩)) (hg:w.heap[g]?=some (.cells cs t fr))
  (hu:P.underlying ty=some d) (hd:(match d with | .struct _ | .array _ _=>true | _=>false)=true) (hi:(P.info? ty).map (·.size)=some cs.size) (hf:a.defers=[]) (hR:R (.returned (.agg cs)) w):bodyPost P fn R .ret a w :=
 bodyPost_ret (results_cell_row h _ w g t cs fr d hp hg hu hd hi) hf hR
theorem LH (h:fn.results=#[.cell p ty,.tmp u]) (tmps:Array Value) (hp:tmps.getD p undef=.pointer (some ⟨g,0,none⟩)) (hg:w.heap[g]?=some (.cells cs t fr))
  (hu:P.underlying ty=some d) (hd:(match d with | .struct _ | .array _ _=>true | _=>false)=true) (hi:(P.info? ty).map (·.size)=some cs.size) :
  (results fn tmps).run P w=.ok (.tuple #[.agg cs,tmps.getD u undef]) w:=by
 have hp':tmps[p]?.getD undef=.pointer (some ⟨g,0,none⟩):=by simpa using hp
 simp [results,h,hp',asAddr,run_loadVar_row w g t ty cs fr d hg hu hd hi]
theorem LG (h:fn.results=#[.cell p ty,.tmp u,.tmp x]) (tmps:Array Value) (hp:tmps.getD p undef=.pointer (some ⟨g,0,none⟩)) (hg:w.heap[g]?=some (.cells cs t fr))
  (hu:P.underlying ty=some d) (hd:(match d with | .struct _ | .array _ _=>true | _=>false)=true) (hi:(P.info? ty).map (·.size)=some cs.size) :
  (results fn tmps).run P w=.ok (.tuple #[.agg cs,tmps.getD u undef,tmps.getD x undef]) w:=by
 have hp':tmps[p]?.getD undef=.pointer (some ⟨g,0,none⟩):=by simpa using hp
 simp [results,h,hp',asAddr,run_loadVar_row w g t ty cs fr d hg hu hd hi]
theorem Dx (h:fn.results=#[.cell p ty,.tmp u]) (hp:a.tmps.getD p undef=.pointer (some ⟨g,0,none⟩)) (hg:w.heap[g]?=some (.cells cs t fr))
  (hu:P.underlying ty=some d) (hd:(match d with | .struct _ | .array _ _=>true | _=>false)=true) (hi:(P.info? ty).map (·.size)=some cs.size) (hf:a.defers=[]) (hR:R (.returned (.tuple #[.agg cs,a.tmps.getD u undef])) w):bodyPost P fn R .ret a w :=
 bodyPost_ret (LH h _ hp hg hu hd hi) hf hR
theorem Mo (h:fn.results=#[.cell p ty,.tmp u,.tmp x]) (hp:a.tmps.getD p undef=.pointer (some ⟨g,0,none⟩)) (hg:w.heap[g]?=some (.cells cs t fr))
  (hu:P.underlying ty=some d) (hd:(match d with | .struct _ | .array _ _=>true | _=>false)=true) (hi:(P.info? ty).map (·.size)=some cs.size) (hf:a.defers=[]) (hR:R (.returned (.tuple #[.agg cs,a.tmps.getD u undef,a.tmps.getD x undef])) w):bodyPost P fn R .ret a w :=
 bodyPost_ret (LG h _ hp hg hu hd hi) hf hR
end
end Go.Proofs.YtiaebjpcgjkhoaaGreatDoor
namespace Go.Proofs.YtiaebjpcgjkhoaaGreatDoor
open Go.RowKit
section
variable {P : Program} {a:Act} {w:World} {Q:Exit->Act->World->Prop}
theorem FJ {c rest:Code} (l:Nat) (hf:findLabel c l=some rest)
  (h:∀ J:Act->World->Prop,(∀ a w,rest.wp P (Exit.noGoto Q) a w->J a w)->c.wp P (Exit.jump l J Q) a w):(Code.scope c).wp P Q a w:=by
 refine wp_scope_jumps l (fun a w=>rest.wp P (Exit.noGoto Q) a w) (fun _ _=>0) hf (h _ fun _ _ h=>h) ?_
 intro a w hr b k cs
 obtain ⟨e,a1,w1,hq,harr⟩:=hr b k cs
 refine ⟨e,a1,w1,?_,harr⟩
 cases e with
 | goto l=>exact hq.elim
 | normal=>exact hq
 | exit _=>exact hq
 | ret=>exact hq
 | panic _=>exact hq
 | outgrown=>exact hq
@[go_sem] theorem Afv (l:Nat) (J:Act->World->Prop):Exit.jump l J Q .normal a w=Q .normal a w:=rfl
@[go_sem] theorem AgQ (l:Nat) (J:Act->World->Prop) (id:Nat):Exit.jump l J Q (.exit id) a w=Q (.exit id) a w:=rfl
@[go_sem] theorem Ahk (l:Nat) (J:Act->World->Prop):Exit.jump l J Q .ret a w=Q .ret a w:=rfl
@[go_sem] theorem Agu (l:Nat) (J:Act->World->Prop) (ch:List PanicEntry):Exit.jump l J Q (.panic ch) a w=Q (.panic ch) a w:=rfl
end
end Go.Proofs.YtiaebjpcgjkhoaaGreatDoor
namespace Go.Proofs.YtiaebjpcgjkhoaaGreatDoor
open Go.RowKit
theorem Ad0 {W w1:World} (hb:Below W.heap.size W w1):(∀ b o,b<W.heap.size->w1.cell? ⟨b,o,none⟩=W.cell? ⟨b,o,none⟩)/\(∀ b o,b<W.heap.size->w1.frozen? ⟨b,o,none⟩=W.frozen? ⟨b,o,none⟩) :=
 ⟨fun b o h=>hb.cell (p:=⟨b,o,none⟩) h,fun b o h=>hb.frozen (p:=⟨b,o,none⟩) h⟩
set_option maxHeartbeats 1000000 in
theorem L8 {w:World} {ao:Option Addr} {cap:Nat} {xs:List Int} (h1:xs.length<=cap) (h2:cap<=maxLen) (hr:xs.length*8<=140737488355328) (h3:0<xs.length->∃ a,ao=some a/\∀ i,i<xs.length->w.cell? (a.add i)=some (.int .i64 (xs.getD i 0))) :
  Calls Tryz.prog 35 #[.slice ao xs.length cap] w fun e w'=>∃ v',e=.returned v'/\w'.ownsRow w.heap.size 2 1 v' xs.length (xs.map (Value.int .i64))/\Below w.heap.size w w':=by
 have q22:∀ (w:World) (a:Option Addr) (n c n' c':Nat),(binOp .eql 83 (.slice a n c) (.slice none n' c')).run Tryz.prog w=.ok (.bool a.isNone) w:=fun w a n c n' c'=>Lib.run_eql_slice_nil w _ _ a n c n' c' Tryz.underlying83
 obtain ⟨ki,khi,khz0,khz1,khz2⟩:=Cc I0
 cases ao with
 | none =>
  have h0:xs=[]:=by
   apply List.eq_nil_of_length_eq_zero
   apply Classical.byContradiction
   intro hp
   obtain ⟨_,e,_⟩:=h3 (by omega)
   cases e
  subst h0
  clear h3
  go_enter Tryz.func35,Tryz.ntmps35
  go_wp2
  go_ret
  exact ⟨_,rfl,World.ownsRow_nil _ _ _ _,Below.refl _ _⟩
 | some a =>
  have hn:∀ (j:Nat) (u:Value),(xs.map (Value.int .i64))[j]?=some u->w.cell? (a.add j)=some u:=by
   intro j u hj
   have hjl:j<xs.length:=by have:=(List.getElem?_eq_some_iff.1 hj).1;simpa using this
   obtain ⟨a',e,hc⟩:=h3 (by omega)
   simp only [Option.some.injEq] at e
   subst e
   rw [hc j hjl,← hj];simp [List.getD,hjl]
  have HN:=Lib.hid hn
  clear h3 hn
  have hlen:=h2
  unfold maxLen at hlen
  go_enter Tryz.func35,Tryz.ntmps35
  go_wp2_with (at_builtin;refine wpList_append_own _ rfl _ _ 83 rfl w.heap.size 2 ki (.int .i64 0) 1 8 Tryz.underlying83 khi khz0 khz1 khz2 rfl (by decide) _ _ _ rfl (World.ownsRow_made w #[] 0 (Nat.le_refl _) (Nat.zero_le _) (by simp)) a xs.length cap (xs.map (Value.int .i64)) rfl ?qc1 ?qc2 ?qc3 ?qc4 ?qc5 ?qc6 ?_)
  case qc1=>simp
  case qc2=>intro j u hj;have:=HN.out j u hj;exact Lib.cell?_alloc_some _ this
  case qc3=>intro u hu;simp at hu;obtain ⟨x,_,rfl⟩:=hu;rfl
  case qc4=>unfold maxLen;omega
  case qc5=>omega
  case qc6=>simp
  intro v' w1 hown hgrow _
  go_wp2
  go_ret
  exact ⟨v',rfl,by simpa using hown,((Below.refl _ w).alloc (Nat.le_refl _) _).grown hgrow (by simp) (by intro k hk;simp [Value.ownBlock] at hk;omega)⟩
theorem YK {w:World} {v:Value} {xs:List Int} (h:AtI w xs v) (hr:xs.length<=128) :
  Calls Tryz.prog 34 #[v] w fun e w'=>∃ v',e=.returned v'/\Im w' w.heap.size v' xs/\Below w.heap.size w w':=by
 obtain ⟨ao,cap,rfl,h1,h2,h3⟩:=h
 exact Fh h1 h2 (by omega) fun hp=>by obtain ⟨b,off,rfl,_,hc⟩:=h3 hp;exact ⟨_,rfl,fun i hi=>by rw [Addr.add_lit];exact hc i hi⟩
theorem Afa {w:World} {v:Value} {xs:List Int} (h:AtI w xs v) (hr:xs.length<=8) :
  Calls Tryz.prog 35 #[v] w fun e w'=>∃ v',e=.returned v'/\Im w' w.heap.size v' xs/\Below w.heap.size w w':=by
 obtain ⟨ao,cap,rfl,h1,h2,h3⟩:=h
 exact L8 h1 h2 (by omega) fun hp=>by obtain ⟨b,off,rfl,_,hc⟩:=h3 hp;exact ⟨_,rfl,fun i hi=>by rw [Addr.add_lit];exact hc i hi⟩
theorem AtI.drewN {w:World} {xs:List Int} {v:Value} (h:AtI w xs v) (n:Nat):AtI (w.drewN n) xs v:=AtL.map h (Nat.le_refl _) fun _ _ _ _ _ hc=>hc
theorem AtI.alloc {w:World} {xs:List Int} {v:Value} (h:AtI w xs v) (o:Obj):AtI (w.alloc o) xs v :=
 AtL.map h (by simp) fun b off i hb _ hc=>Lib.cell?_alloc_some _ hc
theorem FS {α:Type} {q:List α} {k:Nat} {m:α} (h:q[k]?=some m):q.take (k+1)=q.take k++[m]:=by
 obtain ⟨hk,rfl⟩:=List.getElem?_eq_some_iff.1 h
 rw [List.take_succ_eq_append_getElem hk]
structure U9 (w w2 w':World) (s:D.State) (vg vc vp:Value) (n1:Nat) (qs fs:List Value):Prop where
 g:Im w' w.heap.size vg s.Globals
 g1:∀ k,vg.ownBlock=some k->k<n1
 n0:w.heap.size<=n1
 n2:n1<=w2.heap.size
 c:Fp w2 n1 vc qs s.Chans
 kept:∀ k,n1<=k->k<w2.heap.size->w'.heap[k]?=w2.heap[k]?
 p:D9 w' w2.heap.size vp fs s.Procs
 below:Below w.heap.size w w'
theorem EN {w w':World} {b i:Nat} {u:Value} (h:BI w w' (fun k=>k=b)):BI w (w'.setCell ⟨b,i,none⟩ u) (fun k=>k=b) :=
 BI.setCell (p:=⟨b,i,none⟩) h (Or.inl rfl) u
theorem GY {w:World} {b:Nat} (v0 v1 v2 v3 v4 v5:Value) :
  BI w ((((((w.setCell ⟨b,0,none⟩ v0).setCell ⟨b,1,none⟩ v1).setCell ⟨b,2,none⟩ v2).setCell ⟨b,3,none⟩ v3).setCell ⟨b,4,none⟩ v4).setCell ⟨b,5,none⟩ v5) (fun k=>k=b):=by
 refine EN ?_
 refine EN ?_
 refine EN ?_
 refine EN ?_
 refine EN ?_
 refine EN ?_
 exact BI.refl w _
theorem Acn {w:World} {b:Nat} (v0 v1 v2 v3 v4 v5:Value) :
  ((((((w.setCell ⟨b,0,none⟩ v0).setCell ⟨b,1,none⟩ v1).setCell ⟨b,2,none⟩ v2).setCell ⟨b,3,none⟩ v3).setCell ⟨b,4,none⟩ v4).setCell ⟨b,5,none⟩ v5).heap.size=w.heap.size:=by
 simp [World.setCell]
theorem Mc {w:World} {b:Nat} {u0 u1 u2 u3 u4 u5:Value} {t:TypeId} (h:w.heap[b]?=some (.cells #[u0,u1,u2,u3,u4,u5] t (0,0))) (v0 v1 v2 v3 v4 v5:Value) :
  ((((((w.setCell ⟨b,0,none⟩ v0).setCell ⟨b,1,none⟩ v1).setCell ⟨b,2,none⟩ v2).setCell ⟨b,3,none⟩ v3).setCell ⟨b,4,none⟩ v4).setCell ⟨b,5,none⟩ v5).heap[b]?=some (.cells #[v0,v1,v2,v3,v4,v5] t (0,0)):=by
 rw [A3 (A3 (A3 (A3 (A3 (A3 h _) _) _) _) _) _];rfl
set_option maxRecDepth 100000 in
set_option maxHeartbeats 4000000 in
theorem Pq {w:World} {s:D.State} {g c p:Value} (hs:Fit s) (hg:AtI w s.Globals g) (hc:AtC w s.Chans c) (hp:AtP w s.Procs p) :
  Calls Tryz.prog 19 #[.agg #[g,c,p,.int .i64 s.Last,.int .i64 s.Alone,.int .i64 s.Claim]] w fun e w' =>
   ∃ vg vc vp n1 qs fs w2,e=.returned (.agg #[vg,vc,vp,.int .i64 s.Last,.int .i64 s.Alone,.int .i64 s.Claim])/\U9 w w2 w' s vg vc vp n1 qs fs:=by
 obtain ⟨ki,khi,khz0,khz1,khz2⟩:=Cc Gn
 obtain ⟨kc,khc,kcz0,kcz1,kcz2⟩:=Cc Aa5
 obtain ⟨kp,khp,kpz0,kpz1,kpz2⟩:=Cc Aa4
 have hg128:=hs.g
 have hsc:=hs.c
 have hsp:=hs.p
 obtain ⟨ag,capg,rfl,hg1,hg2,hg3⟩:=id hg
 obtain ⟨ac,capc,rfl,hc1,hc2,hc3⟩:=hc
 obtain ⟨ap,capp,rfl,hp1,hp2,hp3⟩:=hp
 go_enter Tryz.func19,Tryz.ntmps19
 go_wp2_with (go_at_call 34;refine (YK (((hg.alloc _).alloc _).alloc _) hg128).mono ?_;rintro e w1 ⟨vg,rfl,hr1,hb1⟩;obtain ⟨aog,cg,rfl,_⟩:=CF hr1;obtain ⟨cc1,cf1⟩:=Ad0 hb1)
 have hz1:w.heap.size+1+1+1<=w1.heap.size:=by simpa using hb1.size
 have a2:w1.heap[w.heap.size+1+1]?=some (.cells #[.slice ag s.Globals.length capg,.slice ac s.Chans.length capc,.slice ap s.Procs.length capp,.int .i64 s.Last,.int .i64 s.Alone,.int .i64 s.Claim] BK (0,0)):=by
  rw [hb1.block _ (by simp)]
  have:=heap_alloc_new ((w.alloc (.cells #[.slice ag s.Globals.length capg,.slice ac s.Chans.length capc,.slice ap s.Procs.length capp,.int .i64 s.Last,.int .i64 s.Alone,.int .i64 s.Claim] BK)).alloc (.cells #[.slice none 0 0,.slice none 0 0,.slice none 0 0,.int .i64 0,.int .i64 0,.int .i64 0] BK)) (.cells #[.slice ag s.Globals.length capg,.slice ac s.Chans.length capc,.slice ap s.Procs.length capp,.int .i64 s.Last,.int .i64 s.Alone,.int .i64 s.Claim] BK)
  simpa using this
 have a1:w1.heap[w.heap.size+1]?=some (.cells #[.slice none 0 0,.slice none 0 0,.slice none 0 0,.int .i64 0,.int .i64 0,.int .i64 0] BK (0,0)):=by
  rw [hb1.block _ (by simp<;>omega),Below.heap_alloc _ _ _ (by simp)]
  have:=heap_alloc_new (w.alloc (.cells #[.slice ag s.Globals.length capg,.slice ac s.Chans.length capc,.slice ap s.Procs.length capp,.int .i64 s.Last,.int .i64 s.Alone,.int .i64 s.Claim] BK)) (.cells #[.slice none 0 0,.slice none 0 0,.slice none 0 0,.int .i64 0,.int .i64 0,.int .i64 0] BK)
  simpa using this
 have a0:w1.heap[w.heap.size]?=some (.cells #[.slice ag s.Globals.length capg,.slice ac s.Chans.length capc,.slice ap s.Procs.length capp,.int .i64 s.Last,.int .i64 s.Alone,.int .i64 s.Claim] BK (0,0)):=by
  rw [hb1.block _ (by simp<;>omega),Below.heap_alloc _ _ _ (by simp<;>omega),Below.heap_alloc _ _ _ (by simp)]
  have:=heap_alloc_new w (.cells #[.slice ag s.Globals.length capg,.slice ac s.Chans.length capc,.slice ap s.Procs.length capp,.int .i64 s.Last,.int .i64 s.Alone,.int .i64 s.Claim] BK)
  simpa using this
 have hB1:Below w.heap.size w w1:=(((Below.refl _ w).alloc (Nat.le_refl _) _).alloc (by simp) _ |>.alloc (by simp<;>omega) _).trans (hb1.mono (by simp<;>omega))
 clear cc1 cf1
 have F0:(((w1.setCell ⟨w.heap.size+1+1,0,none⟩ (.slice aog s.Globals.length cg)).setCell ⟨w.heap.size+1+1,1,none⟩ (.slice none 0 0)).setCell ⟨w.heap.size+1+1,2,none⟩ (.slice none 0 0)).heap[w.heap.size]?=some (.cells #[.slice ag s.Globals.length capg,.slice ac s.Chans.length capc,.slice ap s.Procs.length capp,.int .i64 s.Last,.int .i64 s.Alone,.int .i64 s.Claim] BK (0,0)):=by
  rw [Below.heap_setCell _ _ _ _ (by simp<;>omega),Below.heap_setCell _ _ _ _ (by simp<;>omega),Below.heap_setCell _ _ _ _ (by simp<;>omega)];exact a0
 have F1:(((w1.setCell ⟨w.heap.size+1+1,0,none⟩ (.slice aog s.Globals.length cg)).setCell ⟨w.heap.size+1+1,1,none⟩ (.slice none 0 0)).setCell ⟨w.heap.size+1+1,2,none⟩ (.slice none 0 0)).heap[w.heap.size+1]?=some (.cells #[.slice none 0 0,.slice none 0 0,.slice none 0 0,.int .i64 0,.int .i64 0,.int .i64 0] BK (0,0)):=by
  rw [Below.heap_setCell _ _ _ _ (by simp),Below.heap_setCell _ _ _ _ (by simp),Below.heap_setCell _ _ _ _ (by simp)];exact a1
 have F2:(((w1.setCell ⟨w.heap.size+1+1,0,none⟩ (.slice aog s.Globals.length cg)).setCell ⟨w.heap.size+1+1,1,none⟩ (.slice none 0 0)).setCell ⟨w.heap.size+1+1,2,none⟩ (.slice none 0 0)).heap[w.heap.size+1+1]?=some (.cells #[.slice aog s.Globals.length cg,.slice none 0 0,.slice none 0 0,.int .i64 s.Last,.int .i64 s.Alone,.int .i64 s.Claim] BK (0,0)):=by
  rw [A3 (A3 (A3 a2 _) _) _];rfl
 have FB:Below w.heap.size w (((w1.setCell ⟨w.heap.size+1+1,0,none⟩ (.slice aog s.Globals.length cg)).setCell ⟨w.heap.size+1+1,1,none⟩ (.slice none 0 0)).setCell ⟨w.heap.size+1+1,2,none⟩ (.slice none 0 0)) :=
  ((hB1.setCell (by simp<;>omega) _).setCell (by simp<;>omega) _).setCell (by simp<;>omega) _
 have FG:Im (((w1.setCell ⟨w.heap.size+1+1,0,none⟩ (.slice aog s.Globals.length cg)).setCell ⟨w.heap.size+1+1,1,none⟩ (.slice none 0 0)).setCell ⟨w.heap.size+1+1,2,none⟩ (.slice none 0 0)) (w.heap.size+1+1+1) (.slice aog s.Globals.length cg) s.Globals:=by
  refine Cy (Cb hr1 (by simp)) fun k hk=>?_
  have hkb:=(hr1.lt k hk).1
  simp at hkb
  rw [Below.heap_setCell _ _ _ _ (by simp<;>omega),Below.heap_setCell _ _ _ _ (by simp<;>omega),Below.heap_setCell _ _ _ _ (by simp<;>omega)]
 have FZ:w.heap.size+1+1+1<=(((w1.setCell ⟨w.heap.size+1+1,0,none⟩ (.slice aog s.Globals.length cg)).setCell ⟨w.heap.size+1+1,1,none⟩ (.slice none 0 0)).setCell ⟨w.heap.size+1+1,2,none⟩ (.slice none 0 0)).heap.size:=by simpa using hz1
 clear hr1 hb1 a0 a1 a2 hB1 hz1
 generalize (((w1.setCell ⟨w.heap.size+1+1,0,none⟩ (.slice aog s.Globals.length cg)).setCell ⟨w.heap.size+1+1,1,none⟩ (.slice none 0 0)).setCell ⟨w.heap.size+1+1,2,none⟩ (.slice none 0 0))=wl at *
 go_loopw [21] (fun i wr=>∃ k:Nat,k<=s.Chans.length/\i=.int .i64 k/\∃ ov qs,wr.heap[w.heap.size+1+1]?=some (.cells #[.slice aog s.Globals.length cg,ov,.slice none 0 0,.int .i64 s.Last,.int .i64 s.Alone,.int .i64 s.Claim] BK (0,0))/\Fp wr wl.heap.size ov qs (s.Chans.take k)/\BI wl wr (fun b=>b=w.heap.size+1+1)) (fun i _=>s.Chans.length - (intOf i).toNat)
 case atStart=>exact ⟨0,Nat.zero_le _,rfl,.slice none 0 0,[],F2,Fp.nil _ _,BI.refl _ _⟩
 case round =>
  obtain ⟨k,hk,rfl,ov,qs,hB,hC,hT⟩:=hrel
  generalize wr=wo at *
  by_cases hlt:k<s.Chans.length
  ·obtain ⟨b,off,rfl,hbl,hrow⟩:=hc3 (by omega)
   obtain ⟨u,hu0,hu1,hq⟩:=hrow k hlt
   have hWr:Below w.heap.size w wo:=FB.trans (hT.below FB.size (fun j hj=>by subst hj;omega))
   rw [← hWr.cell (p:=⟨b,off+k*2,none⟩) hbl] at hu0
   rw [← hWr.cell (p:=⟨b,off+k*2+1,none⟩) hbl] at hu1
   obtain ⟨aq,capq,rfl,hq1,hq2,hq3⟩:=hq
   have HQ:Hid (s.Chans[k]?=some (s.Chans.getD k default)):=by unfold Hid;simp [List.getD,hlt]
   have hfit:=hs.q (s.Chans.getD k default) (Au hlt)
   clear hrow
   generalize s.Chans.getD k default=ch at *
   have hfq:=hfit.1
   have hfm:=Lib.hid hfit.2
   clear hfit
   unfold maxLen at hq2
   go_wp2
   have hfb:wl.heap.size<=wo.heap.size:=hT.size
   have G0:(wo.alloc (.cells #[.int .i64 ch.Shape,.slice aq ch.Queue.length capq] DH)).heap[wo.heap.size]?=some (.cells #[.int .i64 ch.Shape,.slice aq ch.Queue.length capq] DH (0,0)):=heap_alloc_new wo _
   have G1:Below wo.heap.size wo (wo.alloc (.cells #[.int .i64 ch.Shape,.slice aq ch.Queue.length capq] DH)):=(Below.refl _ wo).alloc (Nat.le_refl _) _
   have G2:(wo.alloc (.cells #[.int .i64 ch.Shape,.slice aq ch.Queue.length capq] DH)).heap.size=wo.heap.size+1:=by simp
   generalize wo.alloc (.cells #[.int .i64 ch.Shape,.slice aq ch.Queue.length capq] DH)=wb at *
   have HL:=Lib.hid hlt
   go_loopw [6,28] (fun qv i wr=>∃ (q0:Value) (j:Nat) (vs:List Value),q0=qv/\j<=ch.Queue.length/\i=.int .i64 j/\BR wr (wo.heap.size+1) q0 vs (ch.Queue.take j)/\Below (wo.heap.size+1) wb wr) (fun _ i _=>ch.Queue.length - (intOf i).toNat)
   case atStart=>exact ⟨_,0,[],rfl,Nat.zero_le _,rfl,BR.nil _ _,Below.refl _ _⟩
   case round =>
    obtain ⟨qv,j,vs,rfl,hj,rfl,hQ,hBq⟩:=hrel
    have hsz:=hBq.size
    by_cases hjl:j<ch.Queue.length
    ·obtain ⟨bq,offq,rfl,hbq,hrowq⟩:=hq3 (by omega)
     obtain ⟨x,hx0,hx⟩:=hrowq j hjl
     have hWq:Below w.heap.size w wr:=(hWr.trans (G1.mono (by have:=hWr.size;omega))).trans (hBq.mono (by have:=hWr.size;omega))
     rw [← hWq.cell (p:=⟨bq,offq+j,none⟩) hbq] at hx0
     have hx':=hx.below hWq
     have HJ:Hid (ch.Queue[j]?=some (ch.Queue.getD j [])):=by unfold Hid;simp [List.getD,hjl]
     have hm8:=hfm.out (ch.Queue.getD j []) (Au hjl)
     clear hrowq hx
     generalize ch.Queue.getD j []=m at *
     obtain ⟨ax,capx,rfl,hx1,hx2,hx3⟩:=id hx'
     have hQr:=hQ.row
     have hkl:(ch.Queue.take j).length=j:=by simp;omega
     rw [hkl] at hQr
     go_wp2_with (first | (go_at_call 35;refine (Afa hx' hm8).mono ?_;rintro e w2 ⟨v',rfl,hm2,hb2⟩;obtain ⟨ao',cap',rfl,_⟩:=CF hm2) | (at_builtin;refine wpList_append_own _ rfl _ _ 78 rfl (wo.heap.size+1) Gj ki (.slice none 0 0) 1 24 Tryz.underlying78 khi khz0 khz1 khz2 rfl (by decide) qv j vs rfl ?qrow ⟨w2.heap.size,0,none⟩ 1 1 [.slice ao' m.length cap'] rfl ?qc1 ?qc2 ?qc3 ?qc4 ?qc5 ?qc6 ?_))
     case qrow=>exact B6 (B6 (ts:=[Gj]) hQr (B9.below hb2) (by simp)) (B9.alloc (ts:=[Gj]) _) (by simp)
     case qc1=>rfl
     case qc2=>exact World.news_of_block (heap_alloc_new w2 (.cells #[.slice ao' m.length cap'] Gj))
     case qc3=>intro u hu;simp at hu;subst hu;rfl
     case qc4=>unfold maxLen;omega
     case qc5=>omega
     case qc6=>have:=hb2.size;simp;omega
     intro v2 w3 hown3 hgrow3 _
     have hz2:=hb2.size
     have HO:Hid (BR w3 (wo.heap.size+1) v2 (vs++[.slice ao' m.length cap']) (ch.Queue.take (j+1))):=by
      unfold Hid
      rw [FS HJ.out]
      refine BR.more ((hQ.kept (ts:=[Gj,DI]) (B9.below hb2) (by simp) (by simp)).kept (ts:=[Gj,DI]) (B9.alloc _) (by simp) (by simp)) (B6 (ts:=[DI]) (Cb hm2 (by omega)) (B9.alloc _) (by simp)) (by rw [hkl];exact hown3) hgrow3
     have HB:Hid (Below (wo.heap.size+1) wb w3):=((hBq.trans (hb2.mono (by omega))).alloc (by omega) _).grown hgrow3 (by simp;omega) (fun k hk=>(hQr.lt k hk).1)
     clear hown3 hgrow3 hm2 hb2 hQr hQ hBq
     go_wp2
     go_roundw
     case rel=>exact ⟨v2,j+1,_,rfl,by omega,by go_num,HO.out,HB.out⟩
     case measure=>simp [intOf];omega
    ·obtain rfl:j=ch.Queue.length:=by omega
     rw [List.take_length] at hQ
     have hblkc:wr.heap[wo.heap.size]?=some (.cells #[.int .i64 ch.Shape,.slice aq ch.Queue.length capq] DH (0,0)):=(hBq.block _ (by omega)).trans G0
     have hBo:w.heap.size+1+1<wo.heap.size:=by omega
     have hblkB:wr.heap[w.heap.size+1+1]?=some (.cells #[.slice aog s.Globals.length cg,ov,.slice none 0 0,.int .i64 s.Last,.int .i64 s.Alone,.int .i64 s.Claim] BK (0,0)):=((hBq.block _ (by omega)).trans (G1.block _ hBo)).trans hB
     have x0:wr.cell? ⟨wo.heap.size,0,none⟩=some (.int .i64 ch.Shape):=Ah hblkc rfl
     have x1:wr.cell? ⟨w.heap.size+1+1,1,none⟩=some ov:=Ah hblkB rfl
     have hCr:Fp wr wl.heap.size ov qs (s.Chans.take k):=hC.kept (ts:=[DH,Gj,DI]) (B9.of fun b _ hb=>(hBq.block b (by omega)).trans (G1.block b hb)) (by simp) (by simp) (by simp)
     have hkl:(s.Chans.take k).length=k:=by simp;omega
     have hCrow:=hCr.row
     rw [hkl] at hCrow
     obtain ⟨aqq,cqq,rfl,_⟩:=CF hQ.row
     clear hC
     go_wp2_with (at_builtin;refine wpList_append_own _ rfl _ _ 30 rfl wl.heap.size DH kc (.agg #[.int .i64 0,.slice none 0 0]) 2 32 Tryz.underlying30 khc kcz0 kcz1 kcz2 rfl (by decide) ov k (ED (s.Chans.take k) qs) rfl ?qrow ⟨wr.heap.size,0,none⟩ 1 1 [.int .i64 ch.Shape,.slice aqq ch.Queue.length cqq] rfl ?qc1 ?qc2 ?qc3 ?qc4 ?qc5 ?qc6 ?_)
     case qrow=>exact B6 hCrow (B9.alloc (ts:=[DH]) _) (by simp)
     case qc1=>rfl
     case qc2=>exact World.news_of_block (heap_alloc_new wr (.cells #[.int .i64 ch.Shape,.slice aqq ch.Queue.length cqq] DH))
     case qc3=>intro u hu;simp at hu;rcases hu with rfl | rfl<;>rfl
     case qc4=>have:=hs.c;unfold maxLen;omega
     case qc5=>have:=hs.c;omega
     case qc6=>simp;omega
     intro v2 w3 hown3 hgrow3 _
     have hblk3:w3.heap[w.heap.size+1+1]?=some (.cells #[.slice aog s.Globals.length cg,ov,.slice none 0 0,.int .i64 s.Last,.int .i64 s.Alone,.int .i64 s.Claim] BK (0,0)):=by
      rw [hgrow3.block _ (by simp<;>omega) (fun e=>by obtain ⟨cur,hcur⟩:=AU hCrow e.symm;exact DN hcur hblkB (by decide) rfl),Below.heap_alloc _ _ _ (BQ hblkB)];exact hblkB
     have e0:w3.cell? ⟨w.heap.size+1+1,1,none⟩=some ov:=Ah hblk3 rfl
     have e1:w3.frozen? ⟨w.heap.size+1+1,1,none⟩=false:=Aw hblk3
     have HC:Hid (Fp (w3.setCell ⟨w.heap.size+1+1,1,none⟩ v2) wl.heap.size v2 (qs++[.slice aqq ch.Queue.length cqq]) (s.Chans.take (k+1))):=by
      unfold Hid
      rw [FS HQ.out]
      exact Fp.kept (ts:=[DH,Gj,DI]) (Fp.more (hCr.kept (ts:=[DH,Gj,DI]) (B9.alloc _) (by simp) (by simp) (by simp)) ((hQ.base (by omega)).kept (ts:=[Gj,DI]) (B9.alloc _) (by simp) (by simp)) (by rw [hkl];exact hown3) hgrow3) (B9.set hblk3 (by decide)) (by simp) (by simp) (by simp)
     have HK:Hid ((w3.setCell ⟨w.heap.size+1+1,1,none⟩ v2).heap[w.heap.size+1+1]?=some (.cells #[.slice aog s.Globals.length cg,v2,.slice none 0 0,.int .i64 s.Last,.int .i64 s.Alone,.int .i64 s.Claim] BK (0,0))):=by
      unfold Hid;rw [A3 hblk3];rfl
     have HT:Hid (BI wl (w3.setCell ⟨w.heap.size+1+1,1,none⟩ v2) (fun b=>b=w.heap.size+1+1)) :=
      ((((hT.trans (BI.of_below (F:=fun _=>False) G1) (fun _ h=>h.elim)).trans (BI.of_below (F:=fun _=>False) (G2 ▸ hBq)) (fun _ h=>h.elim)).alloc _).grown hgrow3 (fun k hk=>.inr (hCrow.lt k hk).1)).setCell (.inl rfl) _
     obtain ⟨ao3,cap3,rfl,_⟩:=CF hown3
     clear hown3 hgrow3 hCrow hCr hblkB hblkc hQ hBq G0 G1 hblk3 x0 x1 hq3
     go_wp2
     go_roundw
     case rel=>exact ⟨k+1,HL.out,by go_num,_,_,HK.out,HC.out,HT.out⟩
     case measure=>have:=HL.out;simp [intOf];omega
  ·obtain rfl:k=s.Chans.length:=by omega
   rw [List.take_length] at hC
   have hfb:wl.heap.size<=wo.heap.size:=hT.size
   have hWo:Below w.heap.size w wo:=FB.trans (hT.below FB.size (fun j hj=>by subst hj;omega))
   have f0:wo.heap[w.heap.size]?=_:=(hT.block _ (by omega) (fun e=>absurd (show w.heap.size=w.heap.size+1+1 from e) (by omega))).trans F0
   have f1:wo.heap[w.heap.size+1]?=_:=(hT.block _ (by omega) (fun e=>absurd (show w.heap.size+1=w.heap.size+1+1 from e) (by omega))).trans F1
   have s0:wo.cell? ⟨w.heap.size,2,none⟩=some (.slice ap s.Procs.length capp):=Ah f0 rfl
   have HG:Hid (Im wo (w.heap.size+1+1+1) (.slice aog s.Globals.length cg) s.Globals):=Cy FG fun b hb=>hT.block b (FG.lt b hb).2 (fun e=>by have:=(FG.lt b hb).1;omega)
   have HG1:Hid (∀ b,(Value.slice aog s.Globals.length cg).ownBlock=some b->b<wl.heap.size):=fun b hb=>(FG.lt b hb).2
   clear FG F0 F1 F2 hg3 hc3
   go_wp2
   go_loopw [51] (fun i wr=>∃ k:Nat,k<=s.Procs.length/\i=.int .i64 k/\∃ pv fs,wr.heap[w.heap.size+1+1]?=some (.cells #[.slice aog s.Globals.length cg,ov,pv,.int .i64 s.Last,.int .i64 s.Alone,.int .i64 s.Claim] BK (0,0))/\D9 wr wo.heap.size pv fs (s.Procs.take k)/\BI wo wr (fun b=>b=w.heap.size+1+1)) (fun i _=>s.Procs.length - (intOf i).toNat)
   case atStart=>exact ⟨0,Nat.zero_le _,rfl,.slice none 0 0,[],hB,D9.nil _ _,BI.refl _ _⟩
   case round =>
    obtain ⟨k,hk,rfl,pv,fs,hB2,hP,hT2⟩:=hrel
    have hsz2:=hT2.size
    by_cases hlt:k<s.Procs.length
    ·obtain ⟨b,off,rfl,hbl,hrow⟩:=hp3 (by omega)
     obtain ⟨u,hu0,hu1,hu2,hu3,hq⟩:=hrow k hlt
     have hWr:Below w.heap.size w wr:=hWo.trans (hT2.below hWo.size (fun j hj=>by subst hj;omega))
     rw [← hWr.cell (p:=⟨b,off+k*4,none⟩) hbl] at hu0
     rw [← hWr.cell (p:=⟨b,off+k*4+1,none⟩) hbl] at hu1
     rw [← hWr.cell (p:=⟨b,off+k*4+2,none⟩) hbl] at hu2
     rw [← hWr.cell (p:=⟨b,off+k*4+3,none⟩) hbl] at hu3
     have hx':=hq.below hWr
     have HQ:Hid (s.Procs[k]?=some (s.Procs.getD k default)):=by unfold Hid;simp [List.getD,hlt]
     have hm8:=hs.f (s.Procs.getD k default) (Au hlt)
     clear hrow hq
     generalize s.Procs.getD k default=ch at *
     obtain ⟨aq,capq,rfl,hq1,hq2,hq3⟩:=id hx'
     clear hq3
     unfold maxLen at hq2
     have hPr:=hP.row
     have hkl:(s.Procs.take k).length=k:=by simp;omega
     rw [hkl] at hPr
     have HL:=Lib.hid hlt
     go_wp2_with (first | (go_at_call 34;refine (YK (hx'.alloc _) hm8).mono ?_;rintro e w2 ⟨v',rfl,hm2,hb2⟩;obtain ⟨ao',cap',rfl,_⟩:=CF hm2;obtain ⟨cc2,cf2⟩:=Ad0 hb2;have hblkB2:=(hb2.block _ (Nat.lt_of_lt_of_le (BQ hB2) (by simp))).trans ((Below.heap_alloc _ _ _ (BQ hB2)).trans hB2);have y2:w2.cell? ⟨w.heap.size+1+1,2,none⟩=some pv:=Ah hblkB2 rfl) | (at_builtin;refine wpList_append_own _ rfl _ _ 31 rfl wo.heap.size DX kp (.agg #[.int .i64 0,.int .i64 0,.int .i64 0,.slice none 0 0]) 4 48 Tryz.underlying31 khp kpz0 kpz1 kpz2 rfl (by decide) pv k (Dg (s.Procs.take k) fs) rfl ?qrow ⟨w2.heap.size,0,none⟩ 1 1 [.int .i64 ch.Type_,.int .i64 ch.Loc,.int .i64 ch.Prio,.slice ao' ch.Frame.length cap'] rfl ?qc1 ?qc2 ?qc3 ?qc4 ?qc5 ?qc6 ?_))
     case qrow =>
      have K:B9 wr (w2.setCell ⟨wr.heap.size,3,none⟩ (.slice ao' ch.Frame.length cap')) wo.heap.size [DX]:=B9.of fun b _ hb=>(Below.heap_setCell _ _ _ _ (by simp;omega)).trans ((hb2.block b (by simp;omega)).trans (Below.heap_alloc _ _ _ hb))
      exact B6 (B6 hPr K (by simp)) (B9.alloc (ts:=[DX]) _) (by simp)
     case qc1=>rfl
     case qc2 =>
      have:=World.news_of_block (heap_alloc_new (w2.setCell ⟨wr.heap.size,3,none⟩ (.slice ao' ch.Frame.length cap')) (.cells #[.int .i64 ch.Type_,.int .i64 ch.Loc,.int .i64 ch.Prio,.slice ao' ch.Frame.length cap'] DX))
      simpa using this
     case qc3=>intro u hu;simp at hu;rcases hu with rfl | rfl | rfl | rfl<;>rfl
     case qc4=>have:=hs.p;unfold maxLen;omega
     case qc5=>have:=hs.p;omega
     case qc6=>have:=hb2.size;simp at this;simp;omega
     intro v2 w3 hown3 hgrow3 _
     have hz2:=hb2.size
     simp at hz2
     have hblkz:(w2.setCell ⟨wr.heap.size,3,none⟩ (.slice ao' ch.Frame.length cap')).heap[w.heap.size+1+1]?=some (.cells #[.slice aog s.Globals.length cg,ov,pv,.int .i64 s.Last,.int .i64 s.Alone,.int .i64 s.Claim] BK (0,0)) :=
      (Below.heap_setCell _ _ _ _ (by simp;omega)).trans hblkB2
     have hblk3:w3.heap[w.heap.size+1+1]?=some (.cells #[.slice aog s.Globals.length cg,ov,pv,.int .i64 s.Last,.int .i64 s.Alone,.int .i64 s.Claim] BK (0,0)):=by
      rw [hgrow3.block _ (by simp;omega) (fun e=>by obtain ⟨cur,hcur⟩:=AU hPr e.symm;exact DN hcur hB2 (by decide) rfl),Below.heap_alloc _ _ _ (BQ hblkz)];exact hblkz
     have e0:w3.cell? ⟨w.heap.size+1+1,2,none⟩=some pv:=Ah hblk3 rfl
     have e1:w3.frozen? ⟨w.heap.size+1+1,2,none⟩=false:=Aw hblk3
     have hPz:D9 ((w2.setCell ⟨wr.heap.size,3,none⟩ (.slice ao' ch.Frame.length cap')).alloc (.cells #[.int .i64 ch.Type_,.int .i64 ch.Loc,.int .i64 ch.Prio,.slice ao' ch.Frame.length cap'] DX)) wo.heap.size pv fs (s.Procs.take k):=by
      have K:B9 wr (w2.setCell ⟨wr.heap.size,3,none⟩ (.slice ao' ch.Frame.length cap')) wo.heap.size [DX,DI]:=B9.of fun b _ hb=>(Below.heap_setCell _ _ _ _ (by simp;omega)).trans ((hb2.block b (by simp;omega)).trans (Below.heap_alloc _ _ _ hb))
      exact (hP.kept K (by simp) (by simp)).kept (ts:=[DX,DI]) (B9.alloc _) (by simp) (by simp)
     have hFz:Im ((w2.setCell ⟨wr.heap.size,3,none⟩ (.slice ao' ch.Frame.length cap')).alloc (.cells #[.int .i64 ch.Type_,.int .i64 ch.Loc,.int .i64 ch.Prio,.slice ao' ch.Frame.length cap'] DX)) (wr.heap.size+1) (.slice ao' ch.Frame.length cap') ch.Frame :=
      B6 (ts:=[DI]) (B6 (ts:=[DI]) (Cb hm2 (by simp)) (B9.low (by simp)) (by simp)) (B9.alloc _) (by simp)
     have HP:Hid (D9 (w3.setCell ⟨w.heap.size+1+1,2,none⟩ v2) wo.heap.size v2 (fs++[.slice ao' ch.Frame.length cap']) (s.Procs.take (k+1))):=by
      unfold Hid
      rw [FS HQ.out]
      refine D9.kept (ts:=[DX,DI]) (D9.more hPz (Cb hFz (by omega)) (fun i x b hx hb e=>?_) (by rw [hkl];exact hown3) hgrow3) (B9.set hblk3 (by decide)) (by simp) (by simp)
      have hi:i<fs.length:=(List.getElem?_eq_some_iff.1 hx).1
      rw [hP.len] at hi
      have h1:=((hP.each i x _ hx (List.getElem?_eq_getElem hi)).lt b hb).2
      have h2:=(hFz.lt b e).1
      omega
     have HK:Hid ((w3.setCell ⟨w.heap.size+1+1,2,none⟩ v2).heap[w.heap.size+1+1]?=some (.cells #[.slice aog s.Globals.length cg,ov,v2,.int .i64 s.Last,.int .i64 s.Alone,.int .i64 s.Claim] BK (0,0))):=by
      unfold Hid;rw [A3 hblk3];rfl
     have HT:Hid (BI wo (w3.setCell ⟨w.heap.size+1+1,2,none⟩ v2) (fun b=>b=w.heap.size+1+1)) :=
      ((((((hT2.alloc _).trans (BI.of_below (F:=fun _=>False) hb2) (fun _ h=>h.elim)).setCell (.inr hsz2) _).alloc _).grown hgrow3 (fun k hk=>.inr (hPr.lt k hk).1)).setCell (.inl rfl) _)
     obtain ⟨ao3,cap3,rfl,_⟩:=CF hown3
     clear hown3 hgrow3 hPr hP hPz hFz hblkz hblkB2 hB2 hm2 hb2 cc2 cf2 hblk3 hT2 hx' y2
     go_wp2
     go_roundw
     case rel=>exact ⟨k+1,HL.out,by go_num,_,_,HK.out,HP.out,HT.out⟩
     case measure=>have:=HL.out;simp [intOf];omega
    ·obtain rfl:k=s.Procs.length:=by omega
     rw [List.take_length] at hP
     have b1:wr.heap[w.heap.size+1]?=_:=(hT2.block _ (by omega) (fun e=>absurd (show w.heap.size+1=w.heap.size+1+1 from e) (by omega))).trans f1
     have c0:wr.cell? ⟨w.heap.size+1+1,0,none⟩=_:=Ah hB2 rfl
     have c1:wr.cell? ⟨w.heap.size+1+1,1,none⟩=_:=Ah hB2 rfl
     have c2:wr.cell? ⟨w.heap.size+1+1,2,none⟩=_:=Ah hB2 rfl
     have c3:wr.cell? ⟨w.heap.size+1+1,3,none⟩=_:=Ah hB2 rfl
     have c4:wr.cell? ⟨w.heap.size+1+1,4,none⟩=_:=Ah hB2 rfl
     have c5:wr.cell? ⟨w.heap.size+1+1,5,none⟩=_:=Ah hB2 rfl
     have d0:wr.cell? ⟨w.heap.size+1,0,none⟩=_:=Ah b1 rfl
     have d1:wr.cell? ⟨w.heap.size+1,1,none⟩=_:=Ah b1 rfl
     have d2:wr.cell? ⟨w.heap.size+1,2,none⟩=_:=Ah b1 rfl
     have d3:wr.cell? ⟨w.heap.size+1,3,none⟩=_:=Ah b1 rfl
     have d4:wr.cell? ⟨w.heap.size+1,4,none⟩=_:=Ah b1 rfl
     have d5:wr.cell? ⟨w.heap.size+1,5,none⟩=_:=Ah b1 rfl
     have g0:wr.frozen? ⟨w.heap.size+1,0,none⟩=_:=Aw b1
     have g1:wr.frozen? ⟨w.heap.size+1,1,none⟩=_:=Aw b1
     have g2:wr.frozen? ⟨w.heap.size+1,2,none⟩=_:=Aw b1
     have g3:wr.frozen? ⟨w.heap.size+1,3,none⟩=_:=Aw b1
     have g4:wr.frozen? ⟨w.heap.size+1,4,none⟩=_:=Aw b1
     have g5:wr.frozen? ⟨w.heap.size+1,5,none⟩=_:=Aw b1
     obtain ⟨aov,cov,rfl,_⟩:=CF hC.row
     obtain ⟨apv,cpv,rfl,_⟩:=CF hP.row
     go_wp2
     have hres:=Mc b1 (.slice aog s.Globals.length cg) (.slice aov s.Chans.length cov) (.slice apv s.Procs.length cpv) (.int .i64 s.Last) (.int .i64 s.Alone) (.int .i64 s.Claim)
     have hT3:=GY (w:=wr) (b:=w.heap.size+1) (.slice aog s.Globals.length cg) (.slice aov s.Chans.length cov) (.slice apv s.Procs.length cpv) (.int .i64 s.Last) (.int .i64 s.Alone) (.int .i64 s.Claim)
     have hz3:=Acn (w:=wr) (b:=w.heap.size+1) (.slice aog s.Globals.length cg) (.slice aov s.Chans.length cov) (.slice apv s.Procs.length cpv) (.int .i64 s.Last) (.int .i64 s.Alone) (.int .i64 s.Claim)
     refine QA rfl rfl hres Tryz.underlying33 rfl (by kernel_rfl) rfl ?_
     generalize ((((((wr.setCell ⟨w.heap.size+1,0,none⟩ (.slice aog s.Globals.length cg)).setCell ⟨w.heap.size+1,1,none⟩ (.slice aov s.Chans.length cov)).setCell ⟨w.heap.size+1,2,none⟩ (.slice apv s.Procs.length cpv)).setCell ⟨w.heap.size+1,3,none⟩ (.int .i64 s.Last)).setCell ⟨w.heap.size+1,4,none⟩ (.int .i64 s.Alone)).setCell ⟨w.heap.size+1,5,none⟩ (.int .i64 s.Claim))=wz at *
     have hWr:Below w.heap.size w wr:=hWo.trans (hT2.below hWo.size (fun j hj=>by subst hj;omega))
     have hGr:Im wr (w.heap.size+1+1+1) (.slice aog s.Globals.length cg) s.Globals:=Cy HG.out fun b hb=>hT2.block b (HG.out.lt b hb).2 (fun e=>by have:=(HG.out.lt b hb).1;omega)
     refine ⟨_,_,_,wl.heap.size,qs,fs,wo,rfl,⟨?_,HG1.out,FB.size,hfb,hC,fun b h1 h2=>?_,?_,?_⟩⟩
     ·exact Cb (Cy hGr fun b hb=>hT3.block b (hGr.lt b hb).2 (fun e=>by have:=(hGr.lt b hb).1;omega)) (by omega)
     ·exact (hT3.block b (by omega) (fun e=>by have e:b=w.heap.size+1:=e;omega)).trans (hT2.block b h2 (fun e=>by have e:b=w.heap.size+1+1:=e;omega))
     ·exact hP.kept (ts:=[DX,DI]) (B9.of fun b h1 h2=>hT3.block b h2 (fun e=>by have e:b=w.heap.size+1:=e;omega)) (by simp) (by simp)
     ·exact hWr.trans (hT3.below hWr.size (fun j hj=>by have hj:j=w.heap.size+1:=hj;omega))
end Go.Proofs.YtiaebjpcgjkhoaaGreatDoor
namespace Go.Proofs.YtiaebjpcgjkhoaaGreatDoor
open Go.RowKit
def PD : Ann:={ keep:=fun
  | [0,1,0,1,1,1,1,1,1]=>[0,8,10,46,47,48]
  | _=>[] }
def Me : Ann:={ keep:=fun
  | [0,1,0,1,1,1,1,1,1]=>[0,3,8,9,51,52,53]
  | _=>[] }
def Il : Ann:={ keep:=fun
  | [0,1,0,1]=>[0,9,10,11]
  | _=>[] }
def MQ : Ann:={ keep:=fun
  | [0,1,0,1]=>[0,1,7,8]
  | _=>[] }
def PH : Ann:={ keep:=fun
  | [0,1,0,1]=>[1,2,3,12,13,14]
  | _=>[] }
def PG : Ann:={ keep:=fun
  | [0,1,0,1,1]=>[0,1,21,22,23]
  | _=>[] }
def Dh : Ann:={ cut:=(fun | 1::0::1::1::0::0::0::0::q=>Nat.beq q.length 29 | 1::0::1::1::1::0::0::0::0::q=>Nat.beq q.length 29 | _=>false),keep:=fun
  | 1::0::1::1::0::0::0::0::q=>bif Nat.beq q.length 29 then [0,6,21,26] else []
  | 1::0::1::1::1::0::0::0::0::q=>bif Nat.beq q.length 29 then [0,6,21,30] else []
  | _=>[] }
def AeK : List Nat:=[1,1,0,1,0,0,0,0,0,0,0,0,0,0,0,0,0,0,0,0,0,0,0,0,0,0,0,0,0,0,0,0,0,1,1,0,1]
def AaH : List Nat:=[1,1,0,1,0,0,0,0,0,0,0,0,0,0,0,0,0,0,0,0,0,0,0,0,0,0,0,0,0,0,0,0,0,1,1,1,0,1]
def GQ (e:D.Env) (x:D.Expr) (i:Nat) (b:Bool):St:=AB [(0,.tp (Af e)),(6,.bp 0 0),(21,Aa x.Op),(i,Ac b)] [.box (Az x)]
def OI (e:D.Env) (ds:List D.Dim) (who at' k:Int):St:=AB [(0,.tp (Af e)),(8,Aa who),(10,Aa at'),(46,C2 true ds),(47,Aa ds.length),(48,Aa k)] []
def V2 (e:D.Env) (x:D.Expr) (c:D.Chan) (l:List Int) (k:Int):St:=AB [(0,.tp (Af e)),(3,.bp 0 0),(8,.bp 1 0),(9,.ow 2 0 l.length),(51,Ad true x.Args),(52,Aa x.Args.length),(53,Aa k)] [.box (Az x),.box (AF c),.arr true 0 l.length 1 (AG l)]
def RK (e:D.Env) (k:Int):St:=AB [(0,.tp (Af e)),(9,AW true e.S.Procs),(10,Aa e.S.Procs.length),(11,Aa k)] []
def X6 (l:List Int) (v k:Int):St:=AB [(0,Ad true l),(1,Aa v),(7,Aa l.length),(8,Aa k)] []
def RM (c:D.Chan) (l mt:List Int) (any:Bool) (k:Int):St:=AB [(1,Ad false l),(2,Ad true mt),(3,Ac any),(12,Bx true c.Queue),(13,Aa c.Queue.length),(14,Aa k)] []
def RL (x l mt:List Int) (k:Int):St:=AB [(0,Ad true x),(1,Ad false l),(21,Ad true mt),(22,Aa mt.length),(23,Aa k)] []
end Go.Proofs.YtiaebjpcgjkhoaaGreatDoor
namespace Go.Proofs.YtiaebjpcgjkhoaaGreatDoor
open Go.RowKit
set_option maxRecDepth 100000
theorem UJ (r:Int) (e:D.Env) (x:Int):(fc CU Bl Tryz.f51 [] (Aa r)).goal (St.init [] [.agg (Af e),Aa x]) =
  (∃ (y:Int),VC 25 [VV.agg (Ae e.M),VV.agg (An e.S)] (Aa y)/\BB (y != 0) (LQ (Aa y) (Aa r)) (BB (bif bif bif decide (e.Pid<(-1:Int)) then true else decide (e.Pid>=(↑e.S.Procs.length:Int)) then true else decide (x<0) then true else decide (x>=(↑e.M.Exprs.length:Int))) (LQ (Aa 42) (Aa r)) (LQ (Aa 0) (Aa r)))):=by kernel_rfl
theorem Abq (v r:Int) (e:D.Env) (x:Int):(fc CU Bl Tryz.f39 [] (.tup [Aa v,Aa r])).goal (St.init [] [.agg (Af e),Aa x]) =
  (∃ (y:Int),VC 51 [VV.agg (Af e),Aa x] (Aa y)/\BB (y != 0) (LQ (VV.tup [Aa 0,Aa y]) (VV.tup [Aa v,Aa r])) (∃ (y:Int × Int),VC 52 [VV.tp (Af e),Aa x] (VV.tup [Aa y.fst,Aa y.snd])/\LQ (VV.tup [Aa y.fst,Aa y.snd]) (VV.tup [Aa v,Aa r]))):=by kernel_rfl
theorem Abr (v r:Int) (e:D.Env) (x:Int):(fc CU Bl Tryz.f92 [] (.tup [Aa v,Aa r])).goal (St.init [] [.agg (Af e),Aa x]) =
  (∃ (y:Int),VC 51 [VV.agg (Af e),Aa x] (Aa y)/\BB (y != 0) (LQ (VV.tup [Aa 0,Aa y]) (VV.tup [Aa v,Aa r])) (∃ (y:Int × Int),VC 118 [VV.tp (Af e),Aa x] (VV.tup [Aa y.fst,Aa y.snd])/\LQ (VV.tup [Aa y.fst,Aa y.snd]) (VV.tup [Aa v,Aa r]))):=by kernel_rfl
theorem Zz (v r:Int) (c:Bool):(fc CU Bl Tryz.f84 [] (.tup [Aa v,Aa r])).goal (St.init [] [Ac c]) =
  (BB c (LQ (VV.tup [Aa 1,Aa 0]) (VV.tup [Aa v,Aa r])) (LQ (VV.tup [Aa 0,Aa 0]) (VV.tup [Aa v,Aa r]))):=by kernel_rfl
theorem Xh (v r:Int) (e:D.Env) (x:D.Var):(fc CU Bl Tryz.f116 [] (.tup [Aa v,Aa r])).goal (St.init [] [.tp (Af e),.agg (Bj x)]) =
  (BB (x.Scope==0) (∃ (y:Int),VC 146 [VV.agg (Bj x)] (Aa y)/\BB (decide (y > (↑e.S.Globals.length:Int))) (LQ (VV.tup [Aa 0,Aa 42]) (VV.tup [Aa v,Aa r])) (LQ (VV.tup [Aa (-1),Aa 0]) (VV.tup [Aa v,Aa r]))) (BB (x.Scope==1) (∃ (y:Int),((true&&decide (e.Pid<0)==false)=true->VC 146 [VV.agg (Bj x)] (Aa y))/\((true&&decide (e.Pid<0)==false)=true->inX e.Pid e.S.Procs.length)/\BB (bif decide (e.Pid<0) then true else decide (y > (↑(e.S.Procs.getD e.Pid.toNat default).Frame.length:Int))) (LQ (VV.tup [Aa 0,Aa 42]) (VV.tup [Aa v,Aa r])) (LQ (VV.tup [Aa e.Pid,Aa 0]) (VV.tup [Aa v,Aa r]))) (∃ (y:Int × Int),VC 52 [VV.tp (Af e),Aa x.Who] (VV.tup [Aa y.fst,Aa y.snd])/\BB (y.snd != 0) (LQ (VV.tup [Aa 0,Aa y.snd]) (VV.tup [Aa v,Aa r])) (((true&&(bif decide (y.fst<0) then true else decide (y.fst>=(↑e.S.Procs.length:Int)))==false)=true->inX y.fst e.S.Procs.length)/\BB (bif bif decide (y.fst<0) then true else decide (y.fst>=(↑e.S.Procs.length:Int)) then true else (e.S.Procs.getD y.fst.toNat default).Type_ != x.Type_) (LQ (VV.tup [Aa 0,Aa 52]) (VV.tup [Aa v,Aa r])) (∃ (y_1:Int),VC 146 [VV.agg (Bj x)] (Aa y_1)/\inX y.fst e.S.Procs.length/\BB (decide (y_1 > (↑(e.S.Procs.getD y.fst.toNat default).Frame.length:Int))) (LQ (VV.tup [Aa 0,Aa 42]) (VV.tup [Aa v,Aa r])) (LQ (VV.tup [Aa y.fst,Aa 0]) (VV.tup [Aa v,Aa r]))))))):=by kernel_rfl
theorem Acm (p k r:Int) (e:D.Env) (x:Int):(fc CU PD Tryz.f80 [] (.tup [Aa p,Aa k,Aa r])).goal (St.init [] [.tp (Af e),Aa x]) =
  (inX x e.M.Exprs.length/\inX x e.M.Exprs.length/\BB ((e.M.Exprs.getD x.toNat default).Op != 2) (LQ (VV.tup [Aa 0,Aa 0,Aa 42]) (VV.tup [Aa p,Aa k,Aa r])) (∃ (y:Int × Int),VC 116 [VV.tp (Af e),VV.agg (Bj (e.M.Exprs.getD x.toNat default).V)] (VV.tup [Aa y.fst,Aa y.snd])/\BB (y.snd != 0) (LQ (VV.tup [Aa 0,Aa 0,Aa y.snd]) (VV.tup [Aa p,Aa k,Aa r])) (AA (fc CU PD Tryz.f80 [] (VV.tup [Aa p,Aa k,Aa r])) [1,1,1,1,1,1,0,1,0] (OI e (e.M.Exprs.getD x.toNat default).V.Dims y.fst (e.M.Exprs.getD x.toNat default).V.Slot (0:Int))))):=by kernel_rfl
theorem Zd (v r:Int) (e:D.Env) (x:Int):(fc CU Bl Tryz.f118 [] (.tup [Aa v,Aa r])).goal (St.init [] [.tp (Af e),Aa x]) =
  (∃ (y:Int × Int),VC 52 [VV.tp (Af e),Aa x] (VV.tup [Aa y.fst,Aa y.snd])/\BB (y.snd != 0) (LQ (VV.tup [Aa 0,Aa y.snd]) (VV.tup [Aa v,Aa r])) (BB (bif decide (y.fst<1) then true else decide (y.fst > (↑e.S.Chans.length:Int))) (LQ (VV.tup [Aa 0,Aa 49]) (VV.tup [Aa v,Aa r])) (LQ (VV.tup [Aa y.fst,Aa 0]) (VV.tup [Aa v,Aa r])))):=by kernel_rfl
theorem Ad2 (v r:Int) (e:D.Env) (x:D.Expr):(fc CU Bl Tryz.f82 [] (.tup [Aa v,Aa r])).goal (St.init [] [.tp (Af e),.agg (Az x)]) =
  (∃ (y:Int × Int),VC 118 [VV.tp (Af e),Aa x.A] (VV.tup [Aa y.fst,Aa y.snd])/\BB (y.snd != 0) (LQ (VV.tup [Aa 0,Aa y.snd]) (VV.tup [Aa v,Aa r])) (inX (IntKind.i64.wrap (y.fst - (1:Int))) e.S.Chans.length/\inX (e.S.Chans.getD (IntKind.i64.wrap (y.fst - (1:Int))).toNat default).Shape e.M.Shapes.length/\BB (x.Op==25) (LQ (VV.tup [Aa (↑(e.S.Chans.getD (IntKind.i64.wrap (y.fst - (1:Int))).toNat default).Queue.length:Int),Aa 0]) (VV.tup [Aa v,Aa r])) (BB (x.Op==26) (∃ (y_1:Int × Int),VC 84 [Ac (decide ((↑(e.S.Chans.getD (IntKind.i64.wrap (y.fst - (1:Int))).toNat default).Queue.length:Int)>=(e.M.Shapes.getD (e.S.Chans.getD (IntKind.i64.wrap (y.fst - (1:Int))).toNat default).Shape.toNat default).Room))] (VV.tup [Aa y_1.fst,Aa y_1.snd])/\LQ (VV.tup [Aa y_1.fst,Aa y_1.snd]) (VV.tup [Aa v,Aa r])) (BB (x.Op==28) (∃ (y_1:Int × Int),VC 84 [Ac (decide ((↑(e.S.Chans.getD (IntKind.i64.wrap (y.fst - (1:Int))).toNat default).Queue.length:Int)<(e.M.Shapes.getD (e.S.Chans.getD (IntKind.i64.wrap (y.fst - (1:Int))).toNat default).Shape.toNat default).Room))] (VV.tup [Aa y_1.fst,Aa y_1.snd])/\LQ (VV.tup [Aa y_1.fst,Aa y_1.snd]) (VV.tup [Aa v,Aa r])) (BB (x.Op==27) (∃ (y_1:Int × Int),VC 84 [Ac ((↑(e.S.Chans.getD (IntKind.i64.wrap (y.fst - (1:Int))).toNat default).Queue.length:Int)==0)] (VV.tup [Aa y_1.fst,Aa y_1.snd])/\LQ (VV.tup [Aa y_1.fst,Aa y_1.snd]) (VV.tup [Aa v,Aa r])) (∃ (y_1:Int × Int),VC 84 [Ac (decide ((↑(e.S.Chans.getD (IntKind.i64.wrap (y.fst - (1:Int))).toNat default).Queue.length:Int) > 0))] (VV.tup [Aa y_1.fst,Aa y_1.snd])/\LQ (VV.tup [Aa y_1.fst,Aa y_1.snd]) (VV.tup [Aa v,Aa r]))))))):=by kernel_rfl
theorem AcZ (v r:Int) (e:D.Env) (x:D.Expr):(fc CU Me Tryz.f83 [] (.tup [Aa v,Aa r])).goal (St.init [] [.tp (Af e),.agg (Az x)]) =
  (∃ (y:Int × Int),VC 118 [VV.tp (Af e),Aa x.A] (VV.tup [Aa y.fst,Aa y.snd])/\BB (y.snd != 0) (LQ (VV.tup [Aa 0,Aa y.snd]) (VV.tup [Aa v,Aa r])) (inX (IntKind.i64.wrap (y.fst - (1:Int))) e.S.Chans.length/\inX (e.S.Chans.getD (IntKind.i64.wrap (y.fst - (1:Int))).toNat default).Shape e.M.Shapes.length/\BB ((↑(e.M.Shapes.getD (e.S.Chans.getD (IntKind.i64.wrap (y.fst - (1:Int))).toNat default).Shape.toNat default).Fields.length:Int) != (↑x.Args.length:Int)) (LQ (VV.tup [Aa 0,Aa 49]) (VV.tup [Aa v,Aa r])) (((0:Int)<=(↑x.Args.length:Int)/\(↑x.Args.length:Int)<=(↑x.Args.length:Int)/\(↑x.Args.length:Int)*(↑8:Int)<=140737488355328)/\AA (fc CU Me Tryz.f83 [] (VV.tup [Aa v,Aa r])) [1,1,1,1,1,1,0,1,0] (AB [(0,VV.tp (Af e)),(3,VV.bp 0 0),(8,VV.bp 1 0),(9,VV.ow 2 0 (↑x.Args.length:Int).toNat),(51,Ad true x.Args),(52,Aa (↑x.Args.length:Int)),(53,Aa 0)] [Ob.box (Az x),Ob.box (AF (e.S.Chans.getD (IntKind.i64.wrap (y.fst - (1:Int))).toNat default)),Ob.arr true 0 (↑x.Args.length:Int).toNat 1 fun (_:Nat)=>((fc CU Me Tryz.f83 [] (VV.tup [Aa v,Aa r])).T (2:TypeId)).zero])))):=by kernel_rfl
theorem Wx (v r:Int) (e:D.Env) (x:D.Expr):(fc CU Bl Tryz.f86 [] (.tup [Aa v,Aa r])).goal (St.init [] [.tp (Af e),.agg (Az x)]) =
  (∃ (y:Int × Int),VC 52 [VV.tp (Af e),Aa x.A] (VV.tup [Aa y.fst,Aa y.snd])/\BB (y.snd != 0) (LQ (VV.tup [Aa 0,Aa y.snd]) (VV.tup [Aa v,Aa r])) (((true&&(bif decide (y.fst<0) then true else decide (y.fst>=(↑e.S.Procs.length:Int)))==false&&(x.Op==38)==true)=true->inX y.fst e.S.Procs.length)/\BB (bif bif decide (y.fst<0) then true else decide (y.fst>=(↑e.S.Procs.length:Int)) then true else bif x.Op==38 then (e.S.Procs.getD y.fst.toNat default).Type_ != x.N else false) (LQ (VV.tup [Aa 0,Aa 52]) (VV.tup [Aa v,Aa r])) (BB (x.Op==37) (inX y.fst e.S.Procs.length/\LQ (VV.tup [Aa (e.S.Procs.getD y.fst.toNat default).Loc,Aa 0]) (VV.tup [Aa v,Aa r])) (inX y.fst e.S.Procs.length/\∃ (y_1:Bool),VC 119 [Ad true x.Args,Aa (e.S.Procs.getD y.fst.toNat default).Loc] (Ac y_1)/\∃ (y:Int × Int),VC 84 [Ac y_1] (VV.tup [Aa y.fst,Aa y.snd])/\LQ (VV.tup [Aa y.fst,Aa y.snd]) (VV.tup [Aa v,Aa r]))))):=by kernel_rfl
theorem AaY (v r:Int) (e:D.Env) (x:D.Expr):(fc CU Bl Tryz.f81 [] (.tup [Aa v,Aa r])).goal (St.init [] [.tp (Af e),.agg (Az x)]) =
  (∃ (y:Int × Int),VC 52 [VV.tp (Af e),Aa x.A] (VV.tup [Aa y.fst,Aa y.snd])/\BB (y.snd != 0) (LQ (VV.tup [Aa 0,Aa y.snd]) (VV.tup [Aa v,Aa r])) (BB (bif x.Op==24 then y.fst != 0 else false) (∃ (y:Int × Int),VC 117 [Aa x.B,VV.tp [VV.tp (Af e)]] (VV.tup [Aa y.fst,Aa y.snd])/\LQ (VV.tup [Aa y.fst,Aa y.snd]) (VV.tup [Aa v,Aa r])) (BB (x.Op==24) (∃ (y:Int × Int),VC 117 [Aa x.C,VV.tp [VV.tp (Af e)]] (VV.tup [Aa y.fst,Aa y.snd])/\LQ (VV.tup [Aa y.fst,Aa y.snd]) (VV.tup [Aa v,Aa r])) (BB (bif bif x.Op==22 then y.fst==0 else false then true else bif x.Op==23 then y.fst != 0 else false) (∃ (y_1:Int × Int),VC 84 [Ac (y.fst != 0)] (VV.tup [Aa y_1.fst,Aa y_1.snd])/\LQ (VV.tup [Aa y_1.fst,Aa y_1.snd]) (VV.tup [Aa v,Aa r])) (∃ (y:Int × Int),VC 117 [Aa x.B,VV.tp [VV.tp (Af e)]] (VV.tup [Aa y.fst,Aa y.snd])/\BB (y.snd != 0) (LQ (VV.tup [Aa 0,Aa y.snd]) (VV.tup [Aa v,Aa r])) (∃ (y_1:Int × Int),VC 84 [Ac (y.fst != 0)] (VV.tup [Aa y_1.fst,Aa y_1.snd])/\LQ (VV.tup [Aa y_1.fst,Aa y_1.snd]) (VV.tup [Aa v,Aa r]))))))):=by kernel_rfl
theorem Ach (v r:Int) (e:D.Env) (x:D.Expr):(fc CU Bl Tryz.f87 [] (.tup [Aa v,Aa r])).goal (St.init [] [.tp (Af e),.agg (Az x)]) =
  (∃ (y:Int × Int),VC 52 [VV.tp (Af e),Aa x.A] (VV.tup [Aa y.fst,Aa y.snd])/\BB (y.snd != 0) (LQ (VV.tup [Aa 0,Aa y.snd]) (VV.tup [Aa v,Aa r])) (BB (bif bif x.Op==3 then true else x.Op==4 then true else x.Op==5) (∃ (y_1:Int × Int),VC 120 [Aa x.Op,Aa y.fst] (VV.tup [Aa y_1.fst,Aa y_1.snd])/\LQ (VV.tup [Aa y_1.fst,Aa y_1.snd]) (VV.tup [Aa v,Aa r])) (∃ (y_1:Int × Int),VC 52 [VV.tp (Af e),Aa x.B] (VV.tup [Aa y_1.fst,Aa y_1.snd])/\BB (y_1.snd != 0) (LQ (VV.tup [Aa 0,Aa y_1.snd]) (VV.tup [Aa v,Aa r])) (∃ (y_2:Int × Int),VC 121 [Aa x.Op,Aa y.fst,Aa y_1.fst] (VV.tup [Aa y_2.fst,Aa y_2.snd])/\LQ (VV.tup [Aa y_2.fst,Aa y_2.snd]) (VV.tup [Aa v,Aa r]))))):=by kernel_rfl
theorem R3 (b:Bool) (e:D.Env):(fc CU Il Tryz.f85 [] (Ac b)).goal (St.init [] [.tp (Af e)]) =
  (AA (fc CU Il Tryz.f85 [] (Ac b)) [1,0,1,0] (RK e (0:Int))):=by kernel_rfl
theorem AdC (v r:Int) (e:D.Env) (x:Int):(fc CU Dh Tryz.f52 [] (.tup [Aa v,Aa r])).goal (St.init [] [.tp (Af e),Aa x]) =
  (inX x e.M.Exprs.length/\BB ((e.M.Exprs.getD x.toNat default).Op==1) (LQ (VV.tup [Aa (e.M.Exprs.getD x.toNat default).N,Aa 0]) (VV.tup [Aa v,Aa r])) (BB ((e.M.Exprs.getD x.toNat default).Op==2) (∃ (y:Int × Int × Int),VC 80 [VV.tp (Af e),Aa x] (VV.tup [Aa y.fst,Aa y.snd.fst,Aa y.snd.snd])/\BB (y.snd.snd != 0) (LQ (VV.tup [Aa 0,Aa y.snd.snd]) (VV.tup [Aa v,Aa r])) (BB (decide (y.fst<0)) (inX y.snd.fst e.S.Globals.length/\LQ (VV.tup [Aa (e.S.Globals.getD y.snd.fst.toNat 0),Aa 0]) (VV.tup [Aa v,Aa r])) (inX y.fst e.S.Procs.length/\inX y.snd.fst (e.S.Procs.getD y.fst.toNat default).Frame.length/\LQ (VV.tup [Aa ((e.S.Procs.getD y.fst.toNat default).Frame.getD y.snd.fst.toNat 0),Aa 0]) (VV.tup [Aa v,Aa r])))) (BB ((e.M.Exprs.getD x.toNat default).Op==22) (AA (fc CU Dh Tryz.f52 [] (VV.tup [Aa v,Aa r])) AeK (GQ e (e.M.Exprs.getD x.toNat default) 26 ((e.M.Exprs.getD x.toNat default).Op==22))) (BB ((e.M.Exprs.getD x.toNat default).Op==23) (AA (fc CU Dh Tryz.f52 [] (VV.tup [Aa v,Aa r])) AeK (GQ e (e.M.Exprs.getD x.toNat default) 26 ((e.M.Exprs.getD x.toNat default).Op==23))) (AA (fc CU Dh Tryz.f52 [] (VV.tup [Aa v,Aa r])) AeK (GQ e (e.M.Exprs.getD x.toNat default) 26 ((e.M.Exprs.getD x.toNat default).Op==24))))))):=by kernel_rfl
theorem Ss (b:Bool) (l:List Int) (v:Int):(fc CU Bl Tryz.f119 [] (Ac b)).goal (St.init [] [Ad true l,Aa v]) =
  (∃ (y:Int),VC 147 [Ad true l,Aa v] (Aa y)/\LQ (Ac (decide (y>=0))) (Ac b)):=by kernel_rfl
theorem Aa6 (r:Int) (l:List Int) (v:Int):(fc CU MQ Tryz.f147 [] (Aa r)).goal (St.init [] [Ad true l,Aa v]) =
  (AA (fc CU MQ Tryz.f147 [] (Aa r)) [1,0,1,0] (X6 l v (0:Int))):=by kernel_rfl
theorem Adz (r:Int) (c:D.Chan) (l mt:List Int) (some':Bool):(fc CU PH Tryz.f100 [] (Aa r)).goal (St.init [] [.agg (AF c),Ad false l,Ad true mt,Ac some']) =
  (AA (fc CU PH Tryz.f100 [] (Aa r)) [1,0,1,0] (RM c l mt some' (0:Int))):=by kernel_rfl
theorem Ac8 (b:Bool) (x l mt:List Int):(fc CU PG Tryz.f129 [] (Ac b)).goal (St.init [] [Ad true x,Ad false l,Ad true mt]) =
  (BB (bif decide ((↑x.length:Int)<(↑mt.length:Int)) then true else decide ((↑l.length:Int)<(↑mt.length:Int))) (LQ (Ac false) (Ac b)) (AA (fc CU PG Tryz.f129 [] (Ac b)) [1,1,0,1,0] (RL x l mt (0:Int)))):=by kernel_rfl
theorem Abl (v r:Int) (e:D.Env) (x:D.Expr) (b:Bool):((fc CU Dh Tryz.f52 [] (.tup [Aa v,Aa r])).cut AeK).goal (GQ e x 26 b) =
  (BB b (∃ (y:Int × Int),VC 81 [VV.tp (Af e),VV.agg (Az x)] (VV.tup [Aa y.fst,Aa y.snd])/\LQ (VV.tup [Aa y.fst,Aa y.snd]) (VV.tup [Aa v,Aa r])) (BB (x.Op==25) (AA (fc CU Dh Tryz.f52 [] (VV.tup [Aa v,Aa r])) AaH (GQ e x 30 (x.Op==25))) (BB (x.Op==26) (AA (fc CU Dh Tryz.f52 [] (VV.tup [Aa v,Aa r])) AaH (GQ e x 30 (x.Op==26))) (BB (x.Op==27) (AA (fc CU Dh Tryz.f52 [] (VV.tup [Aa v,Aa r])) AaH (GQ e x 30 (x.Op==27))) (BB (x.Op==28) (AA (fc CU Dh Tryz.f52 [] (VV.tup [Aa v,Aa r])) AaH (GQ e x 30 (x.Op==28))) (AA (fc CU Dh Tryz.f52 [] (VV.tup [Aa v,Aa r])) AaH (GQ e x 30 (x.Op==29)))))))):=by kernel_rfl
theorem Abk (v r:Int) (e:D.Env) (x:D.Expr) (b:Bool):((fc CU Dh Tryz.f52 [] (.tup [Aa v,Aa r])).cut AaH).goal (GQ e x 30 b) =
  (BB b (∃ (y:Int × Int),VC 82 [VV.tp (Af e),VV.agg (Az x)] (VV.tup [Aa y.fst,Aa y.snd])/\LQ (VV.tup [Aa y.fst,Aa y.snd]) (VV.tup [Aa v,Aa r])) (BB (x.Op==30) (∃ (y:Int × Int),VC 83 [VV.tp (Af e),VV.agg (Az x)] (VV.tup [Aa y.fst,Aa y.snd])/\LQ (VV.tup [Aa y.fst,Aa y.snd]) (VV.tup [Aa v,Aa r])) (BB (x.Op==31) (LQ (VV.tup [Aa e.Pid,Aa 0]) (VV.tup [Aa v,Aa r])) (BB (x.Op==32) (LQ (VV.tup [Aa e.S.Last,Aa 0]) (VV.tup [Aa v,Aa r])) (BB (x.Op==33) (LQ (VV.tup [Aa (↑e.S.Procs.length:Int),Aa 0]) (VV.tup [Aa v,Aa r])) (BB (x.Op==34) (∃ (y:Bool),VC 85 [VV.tp (Af e)] (Ac y)/\∃ (y_1:Int × Int),VC 84 [Ac !y] (VV.tup [Aa y_1.fst,Aa y_1.snd])/\LQ (VV.tup [Aa y_1.fst,Aa y_1.snd]) (VV.tup [Aa v,Aa r])) (BB (x.Op==35) (∃ (y:Int × Int),VC 84 [Ac e.Timeout] (VV.tup [Aa y.fst,Aa y.snd])/\LQ (VV.tup [Aa y.fst,Aa y.snd]) (VV.tup [Aa v,Aa r])) (BB (x.Op==36) (∃ (y:Int × Int),VC 52 [VV.tp (Af e),Aa x.A] (VV.tup [Aa y.fst,Aa y.snd])/\BB (y.snd != 0) (LQ (VV.tup [Aa 0,Aa y.snd]) (VV.tup [Aa v,Aa r])) (((true&&(bif decide (y.fst>=0) then decide (y.fst<(↑e.Able.length:Int)) else false)==true)=true->inX y.fst e.Able.length)/\∃ (y_1:Int × Int),VC 84 [Ac (bif bif decide (y.fst>=0) then decide (y.fst<(↑e.Able.length:Int)) else false then e.Able.getD y.fst.toNat false else false)] (VV.tup [Aa y_1.fst,Aa y_1.snd])/\LQ (VV.tup [Aa y_1.fst,Aa y_1.snd]) (VV.tup [Aa v,Aa r]))) (BB (x.Op==37) (∃ (y:Int × Int),VC 86 [VV.tp (Af e),VV.agg (Az x)] (VV.tup [Aa y.fst,Aa y.snd])/\LQ (VV.tup [Aa y.fst,Aa y.snd]) (VV.tup [Aa v,Aa r])) (BB (x.Op==38) (∃ (y:Int × Int),VC 86 [VV.tp (Af e),VV.agg (Az x)] (VV.tup [Aa y.fst,Aa y.snd])/\LQ (VV.tup [Aa y.fst,Aa y.snd]) (VV.tup [Aa v,Aa r])) (BB (x.Op==39) (LQ (VV.tup [Aa 0,Aa 42]) (VV.tup [Aa v,Aa r])) (∃ (y:Int × Int),VC 87 [VV.tp (Af e),VV.agg (Az x)] (VV.tup [Aa y.fst,Aa y.snd])/\LQ (VV.tup [Aa y.fst,Aa y.snd]) (VV.tup [Aa v,Aa r]))))))))))))):=by kernel_rfl
theorem ZP (p k r:Int) (e:D.Env) (_:Int) (ds:List D.Dim) (who at' i:Int) (J:St->Prop):((fc CU PD Tryz.f80 [] (.tup [Aa p,Aa k,Aa r])).loop [1,1,1,1,1,1,0,1,0] J).goal (OI e ds who at' i) =
  (BB (decide (i<(↑ds.length:Int))) (inX i ds.length/\∃ (y:Int × Int),VC 52 [VV.tp (Af e),Aa (ds.getD i.toNat default).I] (VV.tup [Aa y.fst,Aa y.snd])/\BB (y.snd != 0) (LQ (VV.tup [Aa 0,Aa 0,Aa y.snd]) (VV.tup [Aa p,Aa k,Aa r])) (BB (bif decide (y.fst<0) then true else decide (y.fst>=(ds.getD i.toNat default).Len)) (LQ (VV.tup [Aa 0,Aa 0,Aa 47]) (VV.tup [Aa p,Aa k,Aa r])) (J (OI e ds who (IntKind.i64.wrap (at'+IntKind.i64.wrap (y.fst*(ds.getD i.toNat default).Stride))) (IntKind.i64.wrap (i+(1:Int))))))) (LQ (VV.tup [Aa who,Aa at',Aa 0]) (VV.tup [Aa p,Aa k,Aa r]))):=by kernel_rfl
theorem AaE (v r:Int) (e:D.Env) (x:D.Expr) (c:D.Chan) (l:List Int) (k:Int) (J:St->Prop):((fc CU Me Tryz.f83 [] (.tup [Aa v,Aa r])).loop [1,1,1,1,1,1,0,1,0] J).goal (V2 e x c l k) =
  (BB (decide (k<(↑x.Args.length:Int))) (inX k x.Args.length/\inX k x.Match.length/\BB (x.Match.getD k.toNat 0 != 1) (J (V2 e x c l (IntKind.i64.wrap (k+(1:Int))))) (∃ (y:Int × Int),VC 52 [VV.tp (Af e),Aa (x.Args.getD k.toNat 0)] (VV.tup [Aa y.fst,Aa y.snd])/\inX k l.length/\BB (y.snd != 0) (LQ (VV.tup [Aa 0,Aa y.snd]) (VV.tup [Aa v,Aa r])) (J (AB [(0,VV.tp (Af e)),(3,VV.bp 0 0),(8,VV.bp 1 0),(9,VV.ow 2 0 l.length),(51,Ad true x.Args),(52,Aa (↑x.Args.length:Int)),(53,Aa (IntKind.i64.wrap (k+(1:Int))))] [Ob.box (Az x),Ob.box (AF c),Ob.arr true 0 l.length 1 fun (j:Nat)=>bif j.beq k.toNat then [Aa y.fst] else [Aa (l.getD j 0)]])))) (∃ (y:Int),VC 100 [VV.agg (AF c),Ad false l,Ad true x.Match,Ac (x.N==1)] (Aa y)/\∃ (y_1:Int × Int),VC 84 [Ac (decide (y>=0))] (VV.tup [Aa y_1.fst,Aa y_1.snd])/\LQ (VV.tup [Aa y_1.fst,Aa y_1.snd]) (VV.tup [Aa v,Aa r]))):=by kernel_rfl
theorem PX (b:Bool) (e:D.Env) (k:Int) (J:St->Prop):((fc CU Il Tryz.f85 [] (Ac b)).loop [1,0,1,0] J).goal (RK e k) =
  (BB (decide (k<(↑e.S.Procs.length:Int))) (inX k e.S.Procs.length/\inX (e.S.Procs.getD k.toNat default).Type_ e.M.Procs.length/\inX (e.S.Procs.getD k.toNat default).Loc (e.M.Procs.getD (e.S.Procs.getD k.toNat default).Type_.toNat default).Locs.length/\BB ((e.M.Procs.getD (e.S.Procs.getD k.toNat default).Type_.toNat default).Locs.getD (e.S.Procs.getD k.toNat default).Loc.toNat default).Progress (LQ (Ac true) (Ac b)) (J (RK e (IntKind.i64.wrap (k+(1:Int)))))) (LQ (Ac false) (Ac b))):=by kernel_rfl
theorem Xg (r:Int) (l:List Int) (v k:Int) (J:St->Prop):((fc CU MQ Tryz.f147 [] (Aa r)).loop [1,0,1,0] J).goal (X6 l v k) =
  (BB (decide (k<(↑l.length:Int))) (inX k l.length/\BB (v==l.getD k.toNat 0) (LQ (Aa k) (Aa r)) (J (X6 l v (IntKind.i64.wrap (k+(1:Int)))))) (LQ (Aa (-1)) (Aa r))):=by kernel_rfl
theorem Abh (r:Int) (c:D.Chan) (l mt:List Int) (any:Bool) (k:Int) (J:St->Prop):((fc CU PH Tryz.f100 [] (Aa r)).loop [1,0,1,0] J).goal (RM c l mt any k) =
  (BB (decide (k<(↑c.Queue.length:Int))) (inX k c.Queue.length/\∃ (y:Bool),VC 129 [Ad true (c.Queue.getD k.toNat []),Ad false l,Ad true mt] (Ac y)/\BB y (LQ (Aa k) (Aa r)) (BB (!any) (LQ (Aa (-1)) (Aa r)) (J (RM c l mt any (IntKind.i64.wrap (k+(1:Int))))))) (LQ (Aa (-1)) (Aa r))):=by kernel_rfl
theorem AaS (b:Bool) (x l mt:List Int) (k:Int) (J:St->Prop):((fc CU PG Tryz.f129 [] (Ac b)).loop [1,1,0,1,0] J).goal (RL x l mt k) =
  (BB (decide (k<(↑mt.length:Int))) (inX k mt.length/\((true&&(mt.getD k.toNat 0==1)==true)=true->inX k x.length)/\((true&&(mt.getD k.toNat 0==1)==true)=true->inX k l.length)/\BB (bif mt.getD k.toNat 0==1 then x.getD k.toNat 0 != l.getD k.toNat 0 else false) (LQ (Ac false) (Ac b)) (J (RL x l mt (IntKind.i64.wrap (k+(1:Int)))))) (LQ (Ac true) (Ac b))):=by kernel_rfl
theorem AaX (v r:Int) (e:D.Env) (x:Int):(fc CU Bl Tryz.f117 [] (.tup [Aa v,Aa r])).goal (St.init [] [Aa x,.tp [.tp (Af e)]]) =
  (∃ (y:Int × Int),VC 52 [VV.tp (Af e),Aa x] (VV.tup [Aa y.fst,Aa y.snd])/\LQ (VV.tup [Aa y.fst,Aa y.snd]) (VV.tup [Aa v,Aa r])):=by kernel_rfl
end Go.Proofs.YtiaebjpcgjkhoaaGreatDoor
namespace Go.Proofs.YtiaebjpcgjkhoaaGreatDoor
open Go.RowKit
def DS (b:Int) (s:Bool) (v:Int):Int :=
 if 1<=b/\b<=32 then (if s then (v+2 ^ b.toNat / 2) % 2 ^ b.toNat - 2 ^ b.toNat / 2 else v % 2 ^ b.toNat) else 0
theorem AeZ (b v:Int) (s:Bool) (h:b<1∨32<b):DS b s v=0:=by
 unfold DS;rw [if_neg (by omega)]
theorem UC (b v:Int) (h1:1<=b) (h2:b<=32):wrap64 (v*2 ^ (64 - b).toNat) / 2 ^ (64 - b).toNat=DS b true v:=by
 have hb:b=1∨b=2∨b=3∨b=4∨b=5∨b=6∨b=7∨b=8∨b=9∨b=10∨b=11∨b=12∨b=13∨b=14∨b=15∨b=16∨b=17∨b=18∨b=19∨b=20∨b=21∨b=22∨b=23∨b=24∨b=25∨b=26∨b=27∨b=28∨b=29∨b=30∨b=31∨b=32:=by omega
 unfold wrap64 DS
 rcases hb with h | h | h | h | h | h | h | h | h | h | h | h | h | h | h | h | h | h | h | h | h | h | h | h | h | h | h | h | h | h | h | h <;>
  subst h<;>simp<;>omega
theorem U4 (v:Int) (m:Nat) (hm:m<32):bits .and .i64 v (((2 ^ (m+1):Nat):Int) - 1)=v % ((2 ^ (m+1):Nat):Int):=by
 show IntKind.i64.wrap ((BitVec.ofInt 64 v &&& BitVec.ofInt 64 (((2 ^ (m+1):Nat):Int) - 1)).toNat:Int)=_
 have hp:2 ^ (m+1)<=2 ^ 32:=Nat.pow_le_pow_right (by decide) (by omega)
 have hpos:0<2 ^ (m+1):=Nat.two_pow_pos _
 have e1:(((2 ^ (m+1):Nat):Int) - 1)=((2 ^ (m+1) - 1:Nat):Int):=by omega
 rw [BitVec.toNat_and,e1,BitVec.ofInt_natCast,BitVec.toNat_ofNat,BitVec.toNat_ofInt]
 have e2:(2 ^ (m+1) - 1) % 2 ^ 64=2 ^ (m+1) - 1:=Nat.mod_eq_of_lt (by omega)
 rw [e2,Nat.and_two_pow_sub_one_eq_mod]
 have hlt:(v % ((2 ^ 64:Nat):Int)).toNat % 2 ^ (m+1)<2 ^ (m+1):=Nat.mod_lt _ hpos
 rw [IntWalk.i64_in _ (by omega)]
 have hnn:0<=v % ((2 ^ 64:Nat):Int):=Int.emod_nonneg _ (by decide)
 have hd:((2 ^ (m+1):Nat):Int) ∣ ((2 ^ 64:Nat):Int):=by
  have:2 ^ (m+1) ∣ 2 ^ 64:=Nat.pow_dvd_pow 2 (by omega)
  exact Int.natCast_dvd_natCast.2 this
 rw [Int.natCast_emod,Int.toNat_of_nonneg hnn]
 exact Int.emod_emod_of_dvd _ hd
theorem Ady (b v:Int) (h1:1<=b) (h2:b<=32):bits .and .i64 v (wrap64 (wrap64 (2 ^ b.toNat) - 1))=DS b false v:=by
 obtain ⟨m,rfl⟩:∃ m:Nat,b=(m:Int)+1:=⟨(b - 1).toNat,by omega⟩
 have hm:m<32:=by omega
 have e:((m:Int)+1).toNat=m+1:=by omega
 have hp:2 ^ (m+1)<=2 ^ 32:=Nat.pow_le_pow_right (by decide) (by omega)
 have hpos:0<2 ^ (m+1):=Nat.two_pow_pos _
 have ec:(2:Int) ^ (m+1)=((2 ^ (m+1):Nat):Int):=by simp
 unfold DS
 rw [if_pos ⟨h1,h2⟩,e,ec,IntWalk.wrap64_in ((2 ^ (m+1):Nat):Int) (by omega),IntWalk.wrap64_in _ (by omega),U4 v m hm]
 simp
theorem AcY (b:Int) (h1:1<=b) (h2:b<=32):(2:Int)<=2 ^ b.toNat/\(2:Int) ^ b.toNat<=4294967296:=by
 obtain ⟨m,hm⟩:∃ m:Nat,b.toNat=m+1:=⟨b.toNat - 1,by omega⟩
 rw [hm]
 have hp:2 ^ (m+1)<=2 ^ 32:=Nat.pow_le_pow_right (by decide) (by omega)
 have hq:2 ^ 1<=2 ^ (m+1):=Nat.pow_le_pow_right (by decide) (by omega)
 have ec:(2:Int) ^ (m+1)=((2 ^ (m+1):Nat):Int):=by simp
 rw [ec];omega
end Go.Proofs.YtiaebjpcgjkhoaaGreatDoor
namespace Go.Proofs.YtiaebjpcgjkhoaaGreatDoor
open Go.RowKit
theorem Bs (n:Int):-2147483648<=wrap32 n/\wrap32 n<=2147483647:=by unfold wrap32;omega
theorem Zk {n:Int} (h:-2147483648<=n) (h':n<=2147483647):wrap32 n=n:=by unfold wrap32;omega
theorem GD (n:Int):wrap64 (wrap32 n)=wrap32 n:=by have:=Bs n;exact IntWalk.wrap64_in _ (by omega)
theorem N4 (n:Int):wrap32 n % 4294967296=n % 4294967296:=by unfold wrap32;omega
theorem Qe {m n:Int} (h:m % 4294967296=n % 4294967296):wrap32 m=wrap32 n:=by unfold wrap32;omega
theorem Aed (a b:Int):wrap32 (wrap32 a*b)=wrap32 (a*b):=Qe (by rw [Int.mul_emod,N4,← Int.mul_emod])
theorem Ro (a b:Int):wrap32 (a - wrap32 b)=wrap32 (a - b):=Qe (by rw [Int.sub_emod,N4,← Int.sub_emod])
theorem XW (x y:Int) (h1:-2147483648<=x) (h2:x<=2147483647):-2147483648<=x.tmod y/\x.tmod y<=2147483647:=by
 by_cases h:0<=x
 ·have a:=Int.tmod_nonneg y h
  have b:x.tmod y<=x:=by
   have:=Int.emod_nonneg
   rw [Int.tmod_eq_emod_of_nonneg h]
   by_cases hy:y=0
   ·subst hy;simp
   ·have hq:x % y=x - y*(x / y):=by have:=Int.emod_def x y;omega
    have:0<=y*(x / y):=by
     rcases Int.lt_or_gt_of_ne hy with hn | hp
     ·exact Int.mul_nonneg_of_nonpos_of_nonpos (by omega) (Int.ediv_nonpos_of_nonneg_of_nonpos h (by omega))
     ·exact Int.mul_nonneg (by omega) (Int.ediv_nonneg h (by omega))
    omega
  omega
 ·have e:x.tmod y=-((-x).tmod y):=by rw [Int.neg_tmod];omega
  have hx:0<=-x:=by omega
  have a:=Int.tmod_nonneg y hx
  have b:(-x).tmod y<=-x:=by
   rw [Int.tmod_eq_emod_of_nonneg hx]
   by_cases hy:y=0
   ·subst hy;simp
   ·have hq:-x % y=-x - y*(-x / y):=by have:=Int.emod_def (-x) y;omega
    have:0<=y*(-x / y):=by
     rcases Int.lt_or_gt_of_ne hy with hn | hp
     ·exact Int.mul_nonneg_of_nonpos_of_nonpos (by omega) (Int.ediv_nonpos_of_nonneg_of_nonpos hx (by omega))
     ·exact Int.mul_nonneg (by omega) (Int.ediv_nonneg hx (by omega))
    omega
  omega
theorem AeE (x y:Int) (h1:-2147483648<=x) (h2:x<=2147483647):wrap32 (x - wrap32 (wrap32 (x.tdiv y)*y))=x.tmod y:=by
 have hb:=XW x y h1 h2
 rw [Ro,← Ro,Aed,Ro]
 have e:x - x.tdiv y*y=x.tmod y:=by have:=Int.tmod_add_mul_tdiv x y;rw [Int.mul_comm] at this;omega
 rw [e];exact Zk hb.1 hb.2
def Hb (b:Bool):Int:=if b then 1 else 0
def GR (a n:Int):Int:=if 0<=n then wrap32 (a*2 ^ min n.toNat 32) else a / 2 ^ min (-n).toNat 32
def DY (op a b:Int):Int :=
 if op=6 then wrap32 (wrap32 a*wrap32 b)
 else if op=7 then (if wrap32 b=0 then 0 else wrap32 ((wrap32 a).tdiv (wrap32 b)))
 else if op=8 then (if wrap32 b=0 then 0 else (wrap32 a).tmod (wrap32 b))
 else if op=9 then wrap32 (wrap32 a+wrap32 b)
 else if op=10 then wrap32 (wrap32 a - wrap32 b)
 else if op=11 then GR (wrap32 a) (wrap32 b)
 else if op=12 then GR (wrap32 a) (-wrap32 b)
 else if op=13 then Hb (decide (wrap32 a<wrap32 b))
 else if op=14 then Hb (decide (wrap32 a<=wrap32 b))
 else if op=15 then Hb (decide (wrap32 b<wrap32 a))
 else if op=16 then Hb (decide (wrap32 b<=wrap32 a))
 else if op=17 then Hb (wrap32 a==wrap32 b)
 else if op=18 then Hb (wrap32 a != wrap32 b)
 else if op=19 then bits .and .i32 (wrap32 a) (wrap32 b)
 else if op=20 then bits .xor .i32 (wrap32 a) (wrap32 b)
 else if op=21 then bits .or .i32 (wrap32 a) (wrap32 b)
 else 0
def GP (op b:Int):Int :=
 if (op=7∨op=8)/\wrap32 b=0 then 48 else if 6<=op/\op<=21 then 0 else 42
def Mt (op a:Int):Int :=
 if op=3 then wrap32 (-wrap32 a) else if op=4 then Hb (wrap32 a==0) else if op=5 then -wrap32 a - 1 else 0
def WX (op:Int):Int:=if op=3∨op=4∨op=5 then 0 else 42
theorem Ef (op:BinOp) (hop:op=.and∨op=.or∨op=.xor) (a b:Int):-2147483648<=bits op .i32 a b/\bits op .i32 a b<=2147483647:=by
 rcases hop with rfl | rfl | rfl
 all_goals
  unfold bits
  simp only []
  rw [IntKind.wrap_i32];omega
theorem Aco (a:Int) (k:Nat):(a / 2 ^ k) / 2=a / 2 ^ (k+1):=by
 rw [Int.ediv_ediv_of_nonneg (Int.le_of_lt (Int.pow_pos (by decide))),Int.pow_succ]
theorem AfT (a:Int) (k:Nat) (h1:-2147483648<=a) (h2:a<=2147483647):-2147483648<=a / 2 ^ k/\a / 2 ^ k<=2147483647:=by
 induction k with
 | zero=>simp;omega
 | succ k ih=>rw [← Aco];omega
theorem JE (a n:Int) (h:-2147483648<=a/\a<=2147483647):-2147483648<=GR a n/\GR a n<=2147483647:=by
 unfold GR
 split
 ·exact Bs _
 ·exact AfT a _ h.1 h.2
theorem Abd (x:Int) (h:-2147483648<=x/\x<=2147483647):bits .xor .i32 (-1) x=-x - 1:=by
 show IntKind.i32.wrap ((BitVec.ofInt 32 (-1) ^^^ BitVec.ofInt 32 x).toNat:Int)=_
 have e:BitVec.ofInt 32 (-1)=BitVec.allOnes 32:=by decide
 rw [e,BitVec.allOnes_xor,BitVec.toNat_not,BitVec.toNat_ofInt,IntKind.wrap_i32]
 have:(((2:Nat) ^ 32:Nat):Int)=4294967296:=by decide
 rw [this];omega
theorem Adv (a:Int):wrap64 (bits .xor .i32 (-1) (wrap32 a))=-wrap32 a - 1:=by
 have h:=Bs a
 rw [Abd _ h];exact IntWalk.wrap64_in _ (by omega)
end Go.Proofs.YtiaebjpcgjkhoaaGreatDoor
namespace Go.Proofs.YtiaebjpcgjkhoaaGreatDoor
open Go.RowKit
def DC (b:Bool):Int × Int:=(bif b then 1 else 0,0)
abbrev Evl:=Int->Int × Int
section
variable (e : D.Env) (ev:Evl)
def Dl (a:Int):Int × Int :=
 bif decide ((ev a).2≠0) then (0,(ev a).2) else bif decide ((ev a).1<1)||decide ((e.S.Chans.length:Int)<(ev a).1) then (0,49) else ((ev a).1,0)
def Cl (n:Int):D.Chan:=e.S.Chans.getD (n - 1).toNat default
def AgK (op room many:Int):Int × Int :=
 if op=25 then (many,0) else if op=26 then DC (decide (room<=many)) else if op=28 then DC (decide (many<room)) else if op=27 then DC (decide (many=0)) else DC (decide (0<many))
def Rc (x:D.Expr):Int × Int :=
 bif decide ((Dl e ev x.A).2≠0) then (0,(Dl e ev x.A).2) else AgK x.Op (BC e.M (Cl e (Dl e ev x.A).1).Shape).Room (Cl e (Dl e ev x.A).1).Queue.length
def Xv : Nat->(Nat->Int)->Int
 | 0,_=>0
 | n+1,f=>bif decide (Xv n f≠0) then Xv n f else f n
def DU (a m:Int):Int × Int:=bif decide (m=1) then ev a else (0,0)
def Mj (args mt:List Int):List Int:=(List.range args.length).map fun i=>(DU ev (args.getD i 0) (mt.getD i 0)).1
def Ei (args mt:List Int) (n:Nat):Int:=Xv n fun i=>(DU ev (args.getD i 0) (mt.getD i 0)).2
def He (x l mt:List Int):Bool:=decide (mt.length<=x.length)&&decide (mt.length<=l.length)&&Ce mt.length fun i=>!(decide (mt.getD i 0=1)&&decide (x.getD i 0≠l.getD i 0))
def Q3 (l mt:List Int) (any:Bool):Nat->List (List Int)->Int
 | _,[]=>-1
 | k,x::q=>bif He x l mt then (k:Int) else bif any then Q3 l mt any (k+1) q else -1
def I4 (c:D.Chan) (l mt:List Int) (any:Bool):Int:=Q3 l mt any 0 c.Queue
def QH (x:D.Expr):Int × Int :=
 bif decide ((Dl e ev x.A).2≠0) then (0,(Dl e ev x.A).2)
 else bif decide ((BC e.M (Cl e (Dl e ev x.A).1).Shape).Fields.length≠x.Args.length) then (0,49)
 else bif decide (Ei ev x.Args x.Match x.Args.length≠0) then (0,Ei ev x.Args x.Match x.Args.length)
 else DC (decide (0<=I4 (Cl e (Dl e ev x.A).1) (Mj ev x.Args x.Match) x.Match (decide (x.N=1))))
def Dp (n:Int):D.Process:=e.S.Procs.getD n.toNat default
def JG (x:D.Expr):Int × Int :=
 bif decide ((ev x.A).2≠0) then (0,(ev x.A).2)
 else bif decide ((ev x.A).1<0)||(decide ((e.S.Procs.length:Int)<=(ev x.A).1)||(decide (x.Op=38)&&decide ((Dp e (ev x.A).1).Type_≠x.N))) then (0,52)
 else bif decide (x.Op=37) then ((Dp e (ev x.A).1).Loc,0) else DC (decide ((Dp e (ev x.A).1).Loc∈x.Args))
def Mw (x:D.Expr):Int × Int :=
 bif decide ((ev x.A).2≠0) then (0,(ev x.A).2)
 else bif decide (x.Op=24) then (bif decide ((ev x.A).1≠0) then ev x.B else ev x.C)
 else bif (decide (x.Op=22)&&decide ((ev x.A).1=0))||(decide (x.Op=23)&&decide ((ev x.A).1≠0)) then DC (decide ((ev x.A).1≠0))
 else bif decide ((ev x.B).2≠0) then (0,(ev x.B).2) else DC (decide ((ev x.B).1≠0))
def Qs (x:D.Expr):Int × Int :=
 bif decide ((ev x.A).2≠0) then (0,(ev x.A).2)
 else bif decide (x.Op=3)||(decide (x.Op=4)||decide (x.Op=5)) then (Mt x.Op (ev x.A).1,WX x.Op)
 else bif decide ((ev x.B).2≠0) then (0,(ev x.B).2) else (DY x.Op (ev x.A).1 (ev x.B).1,GP x.Op (ev x.B).1)
def C8 (v:D.Var):Int × Int :=
 bif decide (v.Scope=0) then (bif decide ((e.S.Globals.length:Int)<CK v) then (0,42) else (-1,0))
 else bif decide (v.Scope=1) then (bif decide (e.Pid<0)||decide (((Dp e e.Pid).Frame.length:Int)<CK v) then (0,42) else (e.Pid,0))
 else bif decide ((ev v.Who).2≠0) then (0,(ev v.Who).2)
 else bif decide ((ev v.Who).1<0)||(decide ((e.S.Procs.length:Int)<=(ev v.Who).1)||decide ((Dp e (ev v.Who).1).Type_≠v.Type_)) then (0,52)
 else bif decide (((Dp e (ev v.Who).1).Frame.length:Int)<CK v) then (0,42) else ((ev v.Who).1,0)
def Fg : Int->List D.Dim->Int × Int
 | n,[]=>(n,0)
 | n,d::l=>bif decide ((ev d.I).2≠0) then (0,(ev d.I).2) else bif decide ((ev d.I).1<0)||decide (d.Len<=(ev d.I).1) then (0,47) else Fg (n+(ev d.I).1*d.Stride) l
def BH (x:D.Expr):Int × Int × Int :=
 bif decide (x.Op≠2) then (0,0,42)
 else bif decide ((C8 e ev x.V).2≠0) then (0,0,(C8 e ev x.V).2)
 else bif decide ((Fg ev x.V.Slot x.V.Dims).2≠0) then (0,0,(Fg ev x.V.Slot x.V.Dims).2) else ((C8 e ev x.V).1,(Fg ev x.V.Slot x.V.Dims).1,0)
def Ye (x:D.Expr):Int × Int :=
 bif decide ((BH e ev x).2.2≠0) then (0,(BH e ev x).2.2)
 else bif decide ((BH e ev x).1<0) then (e.S.Globals.getD (BH e ev x).2.1.toNat 0,0) else ((Dp e (BH e ev x).1).Frame.getD (BH e ev x).2.1.toNat 0,0)
def JH : Bool:=!(Ce e.S.Procs.length fun i=>!((IY e.M (e.S.Procs.getD i default).Type_).getD (e.S.Procs.getD i default).Loc.toNat default).Progress)
def YO (x:D.Expr):Int × Int :=
 bif decide ((ev x.A).2≠0) then (0,(ev x.A).2)
 else DC (decide (0<=(ev x.A).1)&&(decide ((ev x.A).1<e.Able.length)&&e.Able.getD (ev x.A).1.toNat false))
def De (x:D.Expr):Int × Int :=
 if x.Op=1 then (x.N,0) else if x.Op=2 then Ye e ev x else if x.Op=22∨x.Op=23∨x.Op=24 then Mw ev x
 else if x.Op=25∨x.Op=26∨x.Op=27∨x.Op=28∨x.Op=29 then Rc e ev x else if x.Op=30 then QH e ev x
 else if x.Op=31 then (e.Pid,0) else if x.Op=32 then (e.S.Last,0) else if x.Op=33 then (e.S.Procs.length,0) else if x.Op=34 then DC (!JH e)
 else if x.Op=35 then DC e.Timeout else if x.Op=36 then YO e ev x else if x.Op=37∨x.Op=38 then JG e ev x else if x.Op=39 then (0,42) else Qs ev x
end
def Q6 (e:D.Env):Nat->Evl
 | 0,_=>(0,0)
 | n+1,a=>De e (Q6 e n) (Ar e.M a)
def EO (e:D.Env):Evl:=Q6 e (e.M.Exprs.length - 1)
def CA (e:D.Env) (x:Int):Int :=
 bif decide (CY e.M e.S≠0) then CY e.M e.S
 else bif decide (e.Pid < -1)||(decide ((e.S.Procs.length:Int)<=e.Pid)||(decide (x<0)||decide ((e.M.Exprs.length:Int)<=x))) then 42 else 0
def Ba (e:D.Env) (x:Int):Int × Int:=bif decide (CA e x≠0) then (0,CA e x) else De e (EO e) (Ar e.M x)
def AC (e:D.Env) (x:Int):Int × Int:=bif decide (CA e x≠0) then (0,CA e x) else Dl e (Q6 e e.M.Exprs.length) x
def H5 (v:Int):Nat->List Int->Int
 | _,[]=>-1
 | k,y::l=>bif decide (v=y) then (k:Int) else H5 v (k+1) l
theorem Aa7 {v y:Int} {k:Nat} {l:List Int}:H5 v k (y::l)=bif decide (v=y) then (k:Int) else H5 v (k+1) l:=rfl
theorem Yz {v:Int}:∀ {l:List Int} {k:Nat},decide (v∈l)=decide (H5 v k l>=0)
 | [],k=>by simp [H5]
 | y::l,k=>by
  unfold H5
  by_cases h:v=y
  ·simp [h]
  ·have:=Yz (v:=v) (l:=l) (k:=k+1)
   simp only [h,decide_false,cond_false,← this]
   simp [h]
end Go.Proofs.YtiaebjpcgjkhoaaGreatDoor
namespace Go.Proofs.YtiaebjpcgjkhoaaGreatDoor
open Go.RowKit
theorem GH {k:IntKind} {a b:Int} (h:a=b):Ending.returned (.int k a)=.returned (.int k b):=by rw [h]
theorem AdZ {W w1:World} (hb:Below W.heap.size W w1):(∀ b o,b<W.heap.size->w1.cell? ⟨b,o,none⟩=W.cell? ⟨b,o,none⟩)/\(∀ b o,b<W.heap.size->w1.frozen? ⟨b,o,none⟩=W.frozen? ⟨b,o,none⟩) :=
 ⟨fun b o h=>hb.cell (p:=⟨b,o,none⟩) h,fun b o h=>hb.frozen (p:=⟨b,o,none⟩) h⟩
theorem D6 (w:World) (o:Obj):Below w.heap.size w (w.alloc o):=(Below.refl _ _).alloc (Nat.le_refl _) _
set_option maxHeartbeats 400000 in
theorem AfM (b v:Int) (w:World) (h1:1<=b) (h2:b<=32) :
  Calls Tryz.prog 91 #[.agg #[.int .i64 b,.bool true],.int .i64 v] w fun e w'=>e=.returned (.int .i64 (DS b true v))/\Below w.heap.size w w':=by
 have d1:decide (b<1)=false:=by simp;omega
 have d2:decide (32<b)=false:=by simp;omega
 go_enter Tryz.func91,Tryz.ntmps91
 go_wp2
 go_quiet (fail)
 go_wp2
 go_ret
 exact ⟨GH (UC b v h1 h2),below_drewN (D6 _ _) _⟩
set_option maxHeartbeats 400000 in
theorem AfL (b v:Int) (w:World) (h1:1<=b) (h2:b<=32) :
  Calls Tryz.prog 91 #[.agg #[.int .i64 b,.bool false],.int .i64 v] w fun e w'=>e=.returned (.int .i64 (DS b false v))/\Below w.heap.size w w':=by
 have d1:decide (b<1)=false:=by simp;omega
 have d2:decide (32<b)=false:=by simp;omega
 go_enter Tryz.func91,Tryz.ntmps91
 go_wp2
 go_ret
 exact ⟨GH (Ady b v h1 h2),D6 _ _⟩
set_option maxHeartbeats 400000 in
theorem AfK (b v:Int) (s:Bool) (w:World) (h1:b<1∨32<b) :
  Calls Tryz.prog 91 #[.agg #[.int .i64 b,.bool s],.int .i64 v] w fun e w'=>e=.returned (.int .i64 (DS b s v))/\Below w.heap.size w w':=by
 have HF:=Lib.hid (AeZ b v s h1)
 rcases h1 with h1 | h1
 ·go_enter Tryz.func91,Tryz.ntmps91
  go_wp2
  go_ret
  exact ⟨GH HF.out.symm,D6 _ _⟩
 ·have d1:decide (b<1)=false:=by simp;omega
  go_enter Tryz.func91,Tryz.ntmps91
  go_wp2
  go_ret
  exact ⟨GH HF.out.symm,D6 _ _⟩
theorem Aeh (b v:Int) (s:Bool) (w:World) :
  Calls Tryz.prog 91 #[.agg #[.int .i64 b,.bool s],.int .i64 v] w fun e w'=>e=.returned (.int .i64 (DS b s v))/\Below w.heap.size w w':=by
 by_cases h:1<=b/\b<=32
 ·cases s
  ·exact AfL b v w h.1 h.2
  ·exact AfM b v w h.1 h.2
 ·exact AfK b v s w (by omega)
theorem FL {k l:IntKind} {a b c d:Int} (h:a=b) (h':c=d):Ending.returned (.tuple #[.int k a,.int l c])=.returned (.tuple #[.int k b,.int l d]):=by rw [h,h']
set_option maxHeartbeats 400000 in
theorem VG (b:Bool) (w:World) :
  Calls Tryz.prog 148 #[.bool b] w fun e w'=>e=.returned (.int .i64 (Hb b))/\w=w':=by
 cases b
 all_goals
  go_enter Tryz.func148,Tryz.ntmps148
  go_wp2
  go_ret
  exact ⟨rfl,rfl⟩
set_option maxHeartbeats 400000 in
theorem AbT (a n:Int) (w:World) (h0:-2147483648<=n) (h1:n<=2147483648) :
  Calls Tryz.prog 149 #[.int .i32 a,.int .i64 n] w fun e w'=>e=.returned (.int .i32 (GR a n))/\w=w':=by
 by_cases hn:0<=n
 ·have HP:Hid (GR a n=wrap32 (a*2 ^ min n.toNat 32)):=by unfold Hid GR;rw [if_pos hn]
  by_cases h63:63<n
  ·go_enter Tryz.func149,Tryz.ntmps149
   go_wp2
   go_ret
   exact ⟨GH (by rw [HP.out,show min n.toNat 32=32 by omega];first | rfl | (rw [IntKind.wrap_i32]<;>rfl)),rfl⟩
  ·go_enter Tryz.func149,Tryz.ntmps149
   go_wp2
   go_ret
   exact ⟨GH (by rw [HP.out]),rfl⟩
 ·have HP:Hid (GR a n=a / 2 ^ min (-n).toNat 32):=by unfold Hid GR;rw [if_neg hn]
  have h0n:n<=0:=by omega
  by_cases h63:63 < -n
  ·go_enter Tryz.func149,Tryz.ntmps149
   go_wp2
   go_ret
   exact ⟨GH (by rw [HP.out,show min (-n).toNat 32=32 by omega]<;>rfl),rfl⟩
  ·go_enter Tryz.func149,Tryz.ntmps149
   go_wp2
   go_ret
   exact ⟨GH HP.out.symm,rfl⟩
set_option maxHeartbeats 400000 in
theorem AfI (a b:Int) (w:World) :
  Calls Tryz.prog 121 #[.int .i64 7,.int .i64 a,.int .i64 b] w fun e w'=>e=.returned (.tuple #[.int .i64 (DY 7 a b),.int .i64 (GP 7 b)])/\w=w':=by
 have hy:=Bs b
 have hx:=Bs a
 by_cases h0:wrap32 b=0
 ·have HV:Hid (DY 7 a b=0):=by unfold Hid;simp [DY,h0]
  have HE:Hid (GP 7 b=48):=by unfold Hid;simp [GP,h0]
  have hb0:(wrap32 b==0)=true:=by simpa using h0
  clear h0
  go_enter Tryz.func121,Tryz.ntmps121
  go_wp2
  refine FJ 0 rfl (fun J hJ=>?_)
  go_wp2
  go_step3
  refine ⟨rfl,hJ _ _ ?_⟩
  go_wp2
  rw [Exit.noGoto_ret]
  go_ret2
  exact ⟨FL HV.out.symm HE.out.symm,rfl⟩
 ·have HV:Hid (DY 7 a b=wrap32 ((wrap32 a).tdiv (wrap32 b))):=by unfold Hid;simp [DY,h0]
  have HE:Hid (GP 7 b=0):=by unfold Hid;simp [GP,h0]
  have hb0:(wrap32 b==0)=false:=by simpa using h0
  go_enter Tryz.func121,Tryz.ntmps121
  go_wp2
  go_step3
  go_wp2
  rw [Exit.noGoto_ret]
  go_ret2
  exact ⟨FL (by rw [HV.out];exact GD _) HE.out.symm,rfl⟩
set_option maxHeartbeats 400000 in
theorem AfH (a b:Int) (w:World) :
  Calls Tryz.prog 121 #[.int .i64 8,.int .i64 a,.int .i64 b] w fun e w'=>e=.returned (.tuple #[.int .i64 (DY 8 a b),.int .i64 (GP 8 b)])/\w=w':=by
 have hy:=Bs b
 have hx:=Bs a
 by_cases h0:wrap32 b=0
 ·have HV:Hid (DY 8 a b=0):=by unfold Hid;simp [DY,h0]
  have HE:Hid (GP 8 b=48):=by unfold Hid;simp [GP,h0]
  have hb0:(wrap32 b==0)=true:=by simpa using h0
  clear h0
  go_enter Tryz.func121,Tryz.ntmps121
  go_wp2
  refine FJ 0 rfl (fun J hJ=>?_)
  go_wp2
  go_step3
  refine ⟨rfl,hJ _ _ ?_⟩
  go_wp2
  rw [Exit.noGoto_ret]
  go_ret2
  exact ⟨FL HV.out.symm HE.out.symm,rfl⟩
 ·have HV:Hid (DY 8 a b=(wrap32 a).tmod (wrap32 b)):=by unfold Hid;simp [DY,h0]
  have HE:Hid (GP 8 b=0):=by unfold Hid;simp [GP,h0]
  have hb0:(wrap32 b==0)=false:=by simpa using h0
  go_enter Tryz.func121,Tryz.ntmps121
  go_wp2
  go_step3
  go_wp2
  rw [Exit.noGoto_ret]
  go_ret2
  exact ⟨FL (by rw [HV.out];rw [GD];exact AeE _ _ hx.1 hx.2) HE.out.symm,rfl⟩
set_option maxHeartbeats 4000000 in
theorem AfG (op a b:Int) (w:World) (ho:op=6∨op=9∨op=10∨op=11∨op=12∨op=19∨op=20∨op=21) :
  Calls Tryz.prog 121 #[.int .i64 op,.int .i64 a,.int .i64 b] w fun e w'=>e=.returned (.tuple #[.int .i64 (DY op a b),.int .i64 (GP op b)])/\w=w':=by
 have hy:=Bs b
 rcases ho with rfl | rfl | rfl | rfl | rfl | rfl | rfl | rfl
 all_goals
  go_enter Tryz.func121,Tryz.ntmps121
  go_wp2
  go_step3
  go_wp2_with (first | (go_at_call 149;(with_reducible refine (AbT _ _ _ (by omega) (by omega)).mono ?_);rintro e w1 ⟨rfl,rfl⟩) | (go_at_call 148;(with_reducible refine (VG _ _).mono ?_);rintro e w1 ⟨rfl,rfl⟩))
  rw [Exit.noGoto_ret]
  go_ret2
  refine ⟨FL ?_ (by simp [GP]),rfl⟩
  first
   | (simp [DY,GD];done)
   | (have h:=JE (wrap32 a) (wrap32 b) (Bs a);simp only [DY];exact IntWalk.wrap64_in _ (by omega))
   | (have h:=JE (wrap32 a) (-wrap32 b) (Bs a);simp only [DY];exact IntWalk.wrap64_in _ (by omega))
   | (have h:=Ef .and (by simp) (wrap32 a) (wrap32 b);simp only [DY];exact IntWalk.wrap64_in _ (by omega))
   | (have h:=Ef .xor (by simp) (wrap32 a) (wrap32 b);simp only [DY];exact IntWalk.wrap64_in _ (by omega))
   | (have h:=Ef .or (by simp) (wrap32 a) (wrap32 b);simp only [DY];exact IntWalk.wrap64_in _ (by omega))
set_option maxHeartbeats 4000000 in
theorem AfF (op a b:Int) (w:World) (ho:op=13∨op=14∨op=15∨op=16∨op=17∨op=18) :
  Calls Tryz.prog 121 #[.int .i64 op,.int .i64 a,.int .i64 b] w fun e w'=>e=.returned (.tuple #[.int .i64 (DY op a b),.int .i64 (GP op b)])/\w=w':=by
 have hy:=Bs b
 rcases ho with rfl | rfl | rfl | rfl | rfl | rfl
 all_goals
  go_enter Tryz.func121,Tryz.ntmps121
  go_wp2
  refine FJ 1 rfl (fun J hJ=>?_)
  go_wp2
  go_step3
  refine ⟨rfl,hJ _ _ ?_⟩
  go_wp2_with (first | (go_at_call 149;(with_reducible refine (AbT _ _ _ (by omega) (by omega)).mono ?_);rintro e w1 ⟨rfl,rfl⟩) | (go_at_call 148;(with_reducible refine (VG _ _).mono ?_);rintro e w1 ⟨rfl,rfl⟩))
  rw [Exit.noGoto_ret]
  go_ret2
  exact ⟨FL (by simp only [DY];rfl) (by simp [GP]),rfl⟩
set_option maxHeartbeats 400000 in
theorem Aee (op:Int) (a b:Int) (w:World) (ho:op<6∨21<op) :
  Calls Tryz.prog 121 #[.int .i64 op,.int .i64 a,.int .i64 b] w fun e w'=>e=.returned (.tuple #[.int .i64 (DY op a b),.int .i64 (GP op b)])/\w=w':=by
 have hy:=Bs b
 have HV:Hid (DY op a b=0):=by unfold Hid DY;repeat (rw [if_neg (by omega)])
 have HE:Hid (GP op b=42):=by unfold Hid GP;rw [if_neg (by omega),if_neg (by omega)]
 have e6:(op==6)=false:=by simp;omega
 have e7:(op==7)=false:=by simp;omega
 have e8:(op==8)=false:=by simp;omega
 have e9:(op==9)=false:=by simp;omega
 have e10:(op==10)=false:=by simp;omega
 have e11:(op==11)=false:=by simp;omega
 have e12:(op==12)=false:=by simp;omega
 have e13:(op==13)=false:=by simp;omega
 have e14:(op==14)=false:=by simp;omega
 have e15:(op==15)=false:=by simp;omega
 have e16:(op==16)=false:=by simp;omega
 have e17:(op==17)=false:=by simp;omega
 have e18:(op==18)=false:=by simp;omega
 have e19:(op==19)=false:=by simp;omega
 have e20:(op==20)=false:=by simp;omega
 have e21:(op==21)=false:=by simp;omega
 clear ho
 go_enter Tryz.func121,Tryz.ntmps121
 go_wp2
 refine FJ 1 rfl (fun J hJ=>?_)
 go_wp2
 go_step3
 refine ⟨rfl,hJ _ _ ?_⟩
 go_wp2
 rw [Exit.noGoto_ret]
 go_ret2
 exact ⟨FL HV.out.symm HE.out.symm,rfl⟩
theorem Ahr (op a b:Int) (w:World) :
  Calls Tryz.prog 121 #[.int .i64 op,.int .i64 a,.int .i64 b] w fun e w'=>e=.returned (.tuple #[.int .i64 (DY op a b),.int .i64 (GP op b)])/\w=w':=by
 by_cases ho:op<6∨21<op
 ·exact Aee op a b w ho
 by_cases h7:op=7
 ·subst h7;exact AfI a b w
 by_cases h8:op=8
 ·subst h8;exact AfH a b w
 by_cases hb:13<=op/\op<=18
 ·exact AfF op a b w (by omega)
 ·exact AfG op a b w (by omega)
set_option maxHeartbeats 1000000 in
theorem Ahs (op a:Int) (w:World) :
  Calls Tryz.prog 120 #[.int .i64 op,.int .i64 a] w fun e w'=>e=.returned (.tuple #[.int .i64 (Mt op a),.int .i64 (WX op)])/\w=w':=by
 by_cases ho:op=3∨op=4∨op=5
 ·rcases ho with rfl | rfl | rfl
  all_goals
   have hx:=Bs a
   go_enter Tryz.func120,Tryz.ntmps120
   go_wp2_with (go_at_call 148;(with_reducible refine (VG _ _).mono ?_);rintro e w1 ⟨rfl,rfl⟩)
   go_ret2
   exact ⟨FL (by simp only [Mt];first | rfl | exact GD _ | exact (Adv a) | (simp;omega)) (by simp [WX]),rfl⟩
 have HV:Hid (Mt op a=0):=by unfold Hid Mt;repeat (rw [if_neg (by omega)])
 have HE:Hid (WX op=42):=by unfold Hid WX;rw [if_neg (by omega)]
 have e3:(op==3)=false:=by simp;omega
 have e4:(op==4)=false:=by simp;omega
 have e5:(op==5)=false:=by simp;omega
 clear ho
 go_enter Tryz.func120,Tryz.ntmps120
 go_wp2
 go_ret2
 exact ⟨FL HV.out.symm HE.out.symm,rfl⟩
end Go.Proofs.YtiaebjpcgjkhoaaGreatDoor
namespace Go.Proofs.YtiaebjpcgjkhoaaGreatDoor
open Go.RowKit
theorem ZD {m:D.Model} (h:Br m=(0,0)):FD m<0:=by
 unfold Br at h
 generalize (decide (128<m.Globals.length)||!decide (m.Init.length=m.Globals.length))=c1 at h
 generalize decide (0<=DB m.Globals m.Init)=c2 at h
 generalize (decide (32<m.Shapes.length)||decide (32<m.Chans.length))=c3 at h
 generalize decide (0<=D2 m)=c4 at h
 generalize decide (0<=FF m)=c5 at h
 generalize (decide (m.Procs.length<1)||(decide (16<m.Procs.length)||(decide (m.Claim < -1)||(decide ((m.Procs.length:Int)<=m.Claim)||decide (4096<m.Exprs.length)))))=c6 at h
 cases c7:decide (0<=FD m) with
 | true=>rw [c7] at h;cases c1<;>cases c2<;>cases c3<;>cases c4<;>cases c5<;>cases c6<;>simp at h
 | false=>have:=of_decide_eq_false c7;omega
structure B3 (e:D.Env):Prop where
 fits:Cu e.M e.S=true
 may:FO e.M=true
 wf:Ay e.M
 pid:-1<=e.Pid/\e.Pid<e.S.Procs.length
section
variable {e : D.Env}
theorem B3.fit (h:B3 e):Fit e.S:=Sq h.may h.fits
theorem B3.tab (h:B3 e):AfE e.M:=OA (Dy h.may).1
theorem B3.expr (h:B3 e):∀ i:Nat,i<e.M.Exprs.length->Dd e.M i=true:=UE (ZD (Dy h.may).1)
theorem B3.chan (h:B3 e) {c:D.Chan} (hc:c∈e.S.Chans):CC e.M c=true:=by
 have h:=h.fits
 unfold Cu at h
 simp only [Bool.and_eq_true] at h
 exact (Ck (d:=default) (f:=fun c=>CC e.M c)).1 h.1.1.2 c hc
theorem B3.proc (h:B3 e) {p:D.Process} (hp:p∈e.S.Procs):AP e.M p=true:=by
 have h:=h.fits
 unfold Cu at h
 simp only [Bool.and_eq_true] at h
 exact (Ck (d:=default) (f:=fun c=>AP e.M c)).1 h.1.2 p hp
theorem B3.globals (h:B3 e):e.S.Globals.length=e.M.Globals.length/\AX e.M.Globals e.S.Globals=true:=by
 have h:=h.fits
 unfold Cu Gp at h
 simp only [Bool.and_eq_true] at h
 have:=h.1.1.1.1.1.1.1.1.1
 exact ⟨Ea this,this⟩
theorem D4 {m:D.Model} {p:D.Process} (h:AP m p=true):(0<=p.Type_/\p.Type_<m.Procs.length)/\(0<=p.Loc/\p.Loc<(AK m p.Type_).Locs.length)/\p.Frame.length=(AK m p.Type_).Frame.length/\AX (AK m p.Type_).Frame p.Frame=true/\p.Prio=(AK m p.Type_).Prio/\p.Type_≠m.Claim:=by
 unfold AP BO at h
 simp only [Bool.and_eq_true,decide_eq_true_eq] at h
 obtain ⟨⟨⟨⟨⟨h1,h2⟩,h3⟩,h4⟩,h5⟩,h6⟩:=h
 exact ⟨⟨h1,h2⟩,Cz.1 h4,Ea h6,h6,h5,h3⟩
theorem EW {m:D.Model} {c:D.Chan} (h:CC m c=true):(0<=c.Shape/\c.Shape<m.Shapes.length)/\(c.Queue.length:Int)<=(BC m c.Shape).Room/\∀ x∈c.Queue,AX (BC m c.Shape).Fields x=true:=by
 unfold CC at h
 simp only [Bool.and_eq_true,decide_eq_true_eq] at h
 exact ⟨Cz.1 h.1.1,h.1.2,fun x hx=>(Ck (d:=[]) (f:=fun x=>AX (BC m c.Shape).Fields x)).1 h.2 x hx⟩
end
abbrev vII (p:Int × Int):VV:=.tup [Aa p.1,Aa p.2]
abbrev Lb (p:Int × Int × Int):VV:=.tup [Aa p.1,Aa p.2.1,Aa p.2.2]
theorem Bp {a b:Int} {q:Int × Int} (h:(a,b)=q):leO [] []/\VV.le (.tup [.sc (.int .i64 a),.sc (.int .i64 b)]) (.tup [.sc (.int .i64 q.1),.sc (.int .i64 q.2)]):=by
 subst h;exact ⟨trivial,VV.le_refl _⟩
theorem LV {a b c:Int} {q:Int × Int × Int} (h:(a,b,c)=q):leO [] []/\VV.le (.tup [.sc (.int .i64 a),.sc (.int .i64 b),.sc (.int .i64 c)]) (.tup [.sc (.int .i64 q.1),.sc (.int .i64 q.2.1),.sc (.int .i64 q.2.2)]):=by
 subst h;exact ⟨trivial,VV.le_refl _⟩
theorem ct {α:Type} {c:Bool} {a b x:α} (h:c=true) (k:x=a):x=bif c then a else b:=by rw [h];exact k
theorem cf {α:Type} {c:Bool} {a b x:α} (h:c=false) (k:x=b):x=bif c then a else b:=by rw [h];exact k
theorem it {α:Type} {c:Prop} [Decidable c] {a b x:α} (h:c) (k:x=a):x=if c then a else b:=by rw [if_pos h];exact k
theorem ie {α:Type} {c:Prop} [Decidable c] {a b x:α} (h:¬ c) (k:x=b):x=if c then a else b:=by rw [if_neg h];exact k
abbrev EvS (e:D.Env) (a:Int) (p:Int × Int):Prop:=Ai Tryz.prog 52 [] [.tp (Af e),Aa a] [] (vII p)
theorem CQ {b:Bool}:Ai Tryz.prog 84 [] [Ac b] [] (vII (DC b)) :=
 Ag Ak Aj Tryz.func84 (by kernel_rfl) rfl (Zz _ _ b) ⟨fun h=>Bp (by rw [h]<;>rfl),fun h=>Bp (by rw [h];rfl)⟩
theorem AJ (a b:Int):(a != b)=decide (a≠b):=by rw [Bool.eq_iff_iff];simp
theorem Kj {e:D.Env} {ev:Evl} {a:Int} (h:EvS e a (ev a)):Ai Tryz.prog 118 [] [.tp (Af e),Aa a] [] (vII (Dl e ev a)):=by
 refine Ag Ak Aj Tryz.func118 (by kernel_rfl) rfl (Zd _ _ e a) ⟨ev a,h,fun h=>Bp (ct (by simpa using h) rfl),fun h=>⟨fun h2=>Bp (cf (by simpa using h) (ct ?_ rfl)),fun h2=>Bp (cf (by simpa using h) (cf ?_ rfl))⟩⟩
 ·rw [Bd] at h2;exact h2
 ·rw [Bd] at h2;exact h2
theorem Sz {e:D.Env} {ev:Evl} {a:Int} (hE:B3 e) (h:¬ (Dl e ev a).2≠0):1<=(Dl e ev a).1/\(Dl e ev a).1<=e.S.Chans.length/\e.S.Chans.length<=32:=by
 have hc:=hE.fit.c
 unfold Dl at h ⊢
 cases h1:decide ((ev a).2≠0) with
 | true=>rw [h1] at h;have:=of_decide_eq_true h1;exact absurd h (by simpa using this)
 | false =>
  rw [h1] at h
  simp only [cond_false] at h ⊢
  cases h2:(decide ((ev a).1<1)||decide ((e.S.Chans.length:Int)<(ev a).1)) with
  | true=>rw [h2] at h;simp at h
  | false =>
   simp only [Bool.or_eq_false_iff,decide_eq_false_iff_not] at h2
   simp only [cond_false]
   omega
theorem Xf {l:List Int} {v:Int} (hl:Len l.length):Ai Tryz.prog 147 [] [Ad true l,Aa v] [] (Aa (H5 v 0 l)):=by
 unfold Len at hl
 refine Ag Ak Aj Tryz.func147 (by kernel_rfl) rfl (Aa6 _ l v) ?_
 refine AD Ak Aj l.length (fun k=>X6 l v k) (fun k=>H5 v 0 l=H5 v k (l.drop k)) (by kernel_rfl) (by kernel_rfl) rfl ?_
 intro k hk hI J next
 refine Bb.raw (Xg _ l v k J) ⟨fun hlt=>?_,fun hge=>BM ?_⟩
 ·have hlt':k<l.length:=by have:=AQ hlt;omega
  have hto:(k:Int).toNat=k:=by omega
  rw [hto]
  rw [B4 (d:=0) hlt'] at hI
  rw [Aa7] at hI
  refine ⟨by omega,fun hy=>BM ?_,fun hy=>next _ hlt' ?_ (Up.of ?_)⟩
  ·rw [ieq] at hy;rw [hI,hy,cond_true]
  ·rw [ieq] at hy;rw [hI,hy,cond_false]
  ·rw [Am (by omega)]<;>rfl
 ·have hge':l.length<=k:=by have:=AT hge;omega
  rw [hI,List.drop_of_length_le hge']<;>rfl
theorem P3 {l:List Int} {v:Int} (hl:Len l.length):Ai Tryz.prog 119 [] [Ad true l,Aa v] [] (Ac (decide (v∈l))) :=
 Ag Ak Aj Tryz.func119 (by kernel_rfl) rfl (Ss _ l v) ⟨_,Xf hl,Ao (by rw [Yz (k:=0)])⟩
theorem AbE {e:D.Env} {ev:Evl} {x:D.Expr} (hE:B3 e) (h:EvS e x.A (ev x.A)):Ai Tryz.prog 82 [] [.tp (Af e),.agg (Az x)] [] (vII (Rc e ev x)):=by
 refine Ag Ak Aj Tryz.func82 (by kernel_rfl) rfl (Ad2 _ _ e x) ⟨Dl e ev x.A,Kj h,fun h=>Bp (ct (by simpa using h) rfl),fun h=>?_⟩
 have h0:decide ((Dl e ev x.A).2≠0)=false:=by simpa using h
 have hq:Rc e ev x=AgK x.Op (BC e.M (Cl e (Dl e ev x.A).1).Shape).Room (Cl e (Dl e ev x.A).1).Queue.length:=by unfold Rc;rw [h0]<;>rfl
 rw [hq]
 have hn:=Sz hE (of_decide_eq_false h0)
 generalize (Dl e ev x.A).1=n at hn
 rw [A1 (by omega) (by omega)]
 have hc:=hE.chan (Au (d:=default) (show (n - 1).toNat<e.S.Chans.length by omega))
 have hs:=(EW hc).1
 refine ⟨by omega,hs,fun h1=>Bp (it (by simpa using h1) rfl),fun h1=>⟨fun h2=>⟨_,CQ,Bp (ie (by simpa using h1) (it (by simpa using h2) rfl))⟩,fun h2=>⟨fun h3=>⟨_,CQ,Bp (ie (by simpa using h1) (ie (by simpa using h2) (it (by simpa using h3) rfl)))⟩,fun h3=>⟨fun h4=>⟨_,CQ,Bp (ie (by simpa using h1) (ie (by simpa using h2) (ie (by simpa using h3) (it (by simpa using h4) ?_))))⟩,fun h4=>⟨_,CQ,Bp (ie (by simpa using h1) (ie (by simpa using h2) (ie (by simpa using h3) (ie (by simpa using h4) ?_))))⟩⟩⟩⟩⟩
 ·rw [ieq]<;>rfl
 ·rfl
theorem TP {e:D.Env} {ev:Evl} {x:D.Expr} (h:EvS e x.A (ev x.A)) (hl:Len x.Args.length):Ai Tryz.prog 86 [] [.tp (Af e),.agg (Az x)] [] (vII (JG e ev x)):=by
 refine Ag Ak Aj Tryz.func86 (by kernel_rfl) rfl (Wx _ _ e x) ⟨ev x.A,h,fun h=>Bp (ct (by simpa using h) rfl),fun h=>?_⟩
 have h0:decide ((ev x.A).2≠0)=false:=by simpa using h
 have hq:JG e ev x=bif decide ((ev x.A).1<0)||(decide ((e.S.Procs.length:Int)<=(ev x.A).1)||(decide (x.Op=38)&&decide ((Dp e (ev x.A).1).Type_≠x.N))) then (0,52)
   else bif decide (x.Op=37) then ((Dp e (ev x.A).1).Loc,0) else DC (decide ((Dp e (ev x.A).1).Loc∈x.Args)):=by unfold JG;rw [h0]<;>rfl
 rw [hq]
 generalize (ev x.A).1=n
 refine ⟨fun h1=>?_,fun h1=>?_,fun h1=>⟨fun h2=>⟨?_,Bp (cf ?_ (ct (by simpa using h2) rfl))⟩,fun h2=>⟨?_,_,P3 hl,_,CQ,Bp (cf ?_ (cf (by simpa using h2) rfl))⟩⟩⟩
 ·simp at h1;omega
 ·simp only [Bd,AM,ieq,AJ,ge_iff_le,Bool.or_assoc] at h1;exact Bp (ct h1 rfl)
 ·simp at h1;omega
 ·simp only [Bd,AM,ieq,AJ,ge_iff_le,Bool.or_assoc] at h1;exact h1
 ·simp at h1;omega
 ·simp only [Bd,AM,ieq,AJ,ge_iff_le,Bool.or_assoc] at h1;exact h1
theorem Kx {e:D.Env} {a:Int} {p:Int × Int} (h:EvS e a p):Ai Tryz.prog 117 [] [Aa a,.tp [.tp (Af e)]] [] (vII p) :=
 Ag Ak Aj Tryz.func117 (by kernel_rfl) rfl (AaX _ _ e a) ⟨p,h,Bp rfl⟩
theorem Pd {e:D.Env} {ev:Evl} {x:D.Expr} (h:EvS e x.A (ev x.A)) (hB:EvS e x.B (ev x.B)) (hC:x.Op=24->EvS e x.C (ev x.C)):Ai Tryz.prog 81 [] [.tp (Af e),.agg (Az x)] [] (vII (Mw ev x)):=by
 refine Ag Ak Aj Tryz.func81 (by kernel_rfl) rfl (AaY _ _ e x) ⟨ev x.A,h,fun h=>Bp (ct (by simpa using h) rfl),fun h=>?_⟩
 have h0:decide ((ev x.A).2≠0)=false:=by simpa using h
 have hq:Mw ev x=bif decide (x.Op=24) then (bif decide ((ev x.A).1≠0) then ev x.B else ev x.C)
   else bif (decide (x.Op=22)&&decide ((ev x.A).1=0))||(decide (x.Op=23)&&decide ((ev x.A).1≠0)) then DC (decide ((ev x.A).1≠0))
   else bif decide ((ev x.B).2≠0) then (0,(ev x.B).2) else DC (decide ((ev x.B).1≠0)):=by unfold Mw;rw [h0]<;>rfl
 rw [hq]
 generalize (ev x.A).1=n
 refine ⟨fun h1=>⟨_,Kx hB,?_⟩,fun h1=>⟨fun h2=>⟨_,Kx (hC (by simpa using h2)),?_⟩,fun h2=>⟨fun h3=>⟨_,CQ,?_⟩,fun h3=>⟨_,Kx hB,fun h4=>?_,fun h4=>⟨_,CQ,?_⟩⟩⟩⟩⟩
 ·simp only [AM,ieq,AJ,Bool.and_eq_true] at h1
  exact Bp (ct h1.1 (ct h1.2 rfl))
 ·have h2':decide (x.Op=24)=true:=by simpa using h2
  simp only [AM,ieq,AJ,h2',Bool.true_and] at h1
  exact Bp (ct h2' (cf h1 rfl))
 ·have h2':decide (x.Op=24)=false:=by simpa using h2
  simp only [AM,Bd,ieq,AJ] at h3
  rw [AJ]
  exact Bp (cf h2' (ct h3 rfl))
 ·have h2':decide (x.Op=24)=false:=by simpa using h2
  simp only [AM,Bd,ieq,AJ] at h3
  exact Bp (cf h2' (cf h3 (ct (by simpa using h4) rfl)))
 ·have h2':decide (x.Op=24)=false:=by simpa using h2
  simp only [AM,Bd,ieq,AJ] at h3
  rw [AJ]
  exact Bp (cf h2' (cf h3 (cf (by simpa using h4) rfl)))
theorem AaN {op a:Int}:Ai Tryz.prog 120 [] [Aa op,Aa a] [] (vII (Mt op a,WX op)):=by
 refine Ai.hand ⟨_,Tryz.func120,rfl,by kernel_rfl⟩ fun w E vs hA hL _ _ hs=>?_
 obtain ⟨u1,us1,rfl,v1,hs⟩:=hs.cons_inv
 obtain ⟨u2,us2,rfl,v2,hs⟩:=hs.cons_inv
 obtain rfl:=hs.nil_inv
 rw [v1.sc_inv,v2.sc_inv]
 refine (Ahs op a w).mono ?_
 rintro e w' ⟨rfl,rfl⟩
 exact ⟨_,rfl,Rv .sc .sc,Below.refl _ _⟩
theorem Zy {op a b:Int}:Ai Tryz.prog 121 [] [Aa op,Aa a,Aa b] [] (vII (DY op a b,GP op b)):=by
 refine Ai.hand ⟨_,Tryz.func121,rfl,by kernel_rfl⟩ fun w E vs hA hL _ _ hs=>?_
 obtain ⟨u1,us1,rfl,v1,hs⟩:=hs.cons_inv
 obtain ⟨u2,us2,rfl,v2,hs⟩:=hs.cons_inv
 obtain ⟨u3,us3,rfl,v3,hs⟩:=hs.cons_inv
 obtain rfl:=hs.nil_inv
 rw [v1.sc_inv,v2.sc_inv,v3.sc_inv]
 refine (Ahr op a b w).mono ?_
 rintro e w' ⟨rfl,rfl⟩
 exact ⟨_,rfl,Rv .sc .sc,Below.refl _ _⟩
theorem Qr {e:D.Env} {ev:Evl} {x:D.Expr} (h:EvS e x.A (ev x.A)) (hB:¬ (x.Op=3∨x.Op=4∨x.Op=5)->EvS e x.B (ev x.B)):Ai Tryz.prog 87 [] [.tp (Af e),.agg (Az x)] [] (vII (Qs ev x)):=by
 refine Ag Ak Aj Tryz.func87 (by kernel_rfl) rfl (Ach _ _ e x) ⟨ev x.A,h,fun h=>Bp (ct (by simpa using h) rfl),fun h=>?_⟩
 have h0:decide ((ev x.A).2≠0)=false:=by simpa using h
 have hq:Qs ev x=bif decide (x.Op=3)||(decide (x.Op=4)||decide (x.Op=5)) then (Mt x.Op (ev x.A).1,WX x.Op)
   else bif decide ((ev x.B).2≠0) then (0,(ev x.B).2) else (DY x.Op (ev x.A).1 (ev x.B).1,GP x.Op (ev x.B).1):=by unfold Qs;rw [h0]<;>rfl
 rw [hq]
 generalize (ev x.A).1=n
 refine ⟨fun h1=>⟨_,AaN,Bp (ct ?_ rfl)⟩,fun h1=>⟨ev x.B,hB ?_,fun h2=>Bp (cf ?_ (ct (by simpa using h2) rfl)),fun h2=>⟨_,Zy,Bp (cf ?_ (cf (by simpa using h2) rfl))⟩⟩⟩
 ·simpa only [Bd,ieq,Bool.or_assoc] using h1
 ·simp at h1;omega
 ·simpa only [Bd,ieq,Bool.or_assoc] using h1
 ·simpa only [Bd,ieq,Bool.or_assoc] using h1
end Go.Proofs.YtiaebjpcgjkhoaaGreatDoor
namespace Go.Proofs.YtiaebjpcgjkhoaaGreatDoor
open Go.RowKit
theorem AaR {x l mt:List Int} (hm:Len mt.length):Ai Tryz.prog 129 [] [Ad true x,Ad false l,Ad true mt] [] (Ac (He x l mt)):=by
 unfold Len at hm
 refine Ag Ak Aj Tryz.func129 (by kernel_rfl) rfl (Ac8 _ x l mt) ⟨fun h=>Ao ?_,fun h=>?_⟩
 ·symm;unfold He
  rw [Bd] at h
  rw [Bool.eq_false_iff];intro hq
  simp only [Bool.and_eq_true,decide_eq_true_eq] at hq
  simp at h;omega
 ·have hl:mt.length<=x.length/\mt.length<=l.length:=by simp at h;omega
  have e0:He x l mt=Ce mt.length fun i=>!(decide (mt.getD i 0=1)&&decide (x.getD i 0≠l.getD i 0)):=by
   unfold He
   rw [decide_eq_true hl.1,decide_eq_true hl.2]<;>rfl
  rw [e0]
  refine AD Ak Aj mt.length (fun k=>RL x l mt k) (fun k=>∀ i,i<k->(!(decide (mt.getD i 0=1)&&decide (x.getD i 0≠l.getD i 0)))=true) (by kernel_rfl) (by kernel_rfl) (fun i hi=>by omega) ?_
  intro k hk hI J next
  refine Bb.raw (AaS _ x l mt k J) ⟨fun hlt=>?_,fun hge=>Ao ?_⟩
  ·have hlt':k<mt.length:=by have:=AQ hlt;omega
   have hto:(k:Int).toNat=k:=by omega
   rw [hto]
   refine ⟨by omega,fun _=>by omega,fun _=>by omega,fun hy=>Ao ?_,fun hy=>next _ hlt' (BE hI ?_) (Up.of ?_)⟩
   ·simp only [AM,ieq,AJ] at hy
    exact (Bo (f:=fun i=>!(decide (mt.getD i 0=1)&&decide (x.getD i 0≠l.getD i 0))) hlt' (by rw [hy]<;>rfl)).symm
   ·simp only [AM,ieq,AJ] at hy
    rw [hy]<;>rfl
   ·rw [Am (by omega)]<;>rfl
  ·have hge':mt.length<=k:=by have:=AT hge;omega
   exact (AL.2 fun i hi=>hI i (by omega)).symm
theorem Xq {l mt:List Int} {any:Bool} {k:Nat} {x:List Int} {q:List (List Int)}:Q3 l mt any k (x::q)=bif He x l mt then (k:Int) else bif any then Q3 l mt any (k+1) q else -1:=rfl
theorem Q2 {c:D.Chan} {l mt:List Int} {any:Bool} (hc:Len c.Queue.length) (hm:Len mt.length):Ai Tryz.prog 100 [] [.agg (AF c),Ad false l,Ad true mt,Ac any] [] (Aa (I4 c l mt any)):=by
 unfold Len at hc
 refine Ag Ak Aj Tryz.func100 (by kernel_rfl) rfl (Adz _ c l mt any) ?_
 unfold I4
 refine AD Ak Aj c.Queue.length (fun k=>RM c l mt any k) (fun k=>Q3 l mt any 0 c.Queue=Q3 l mt any k (c.Queue.drop k)) (by kernel_rfl) (by kernel_rfl) rfl ?_
 intro k hk hI J next
 refine Bb.raw (Abh _ c l mt any k J) ⟨fun hlt=>?_,fun hge=>BM ?_⟩
 ·have hlt':k<c.Queue.length:=by have:=AQ hlt;omega
  have hto:(k:Int).toNat=k:=by omega
  rw [hto]
  rw [B4 (d:=[]) hlt',Xq] at hI
  refine ⟨by omega,_,AaR hm,fun hy=>BM ?_,fun hy=>⟨fun ha=>BM ?_,fun ha=>next _ hlt' ?_ (Up.of ?_)⟩⟩
  ·rw [hI,hy,cond_true]
  ·rw [hI,hy,cond_false,show any=false by simpa using ha,cond_false]
  ·rw [hI,hy,cond_false,show any=true by simpa using ha,cond_true]
  ·rw [Am (by omega)]<;>rfl
 ·have hge':c.Queue.length<=k:=by have:=AT hge;omega
  rw [hI,List.drop_of_length_le hge']<;>rfl
theorem JS {f:Nat->Int}:∀ {n:Nat},(∀ i,i<n->f i=0)->Xv n f=0
 | 0,_=>rfl
 | n+1,h=>by
  unfold Xv
  rw [JS fun i hi=>h i (by omega),h n (by omega)]<;>rfl
theorem Pm {f:Nat->Int} {k:Nat} (h:∀ i,i<k->f i=0) (hf:f k≠0):∀ {n:Nat},k<n->Xv n f=f k
 | 0,hk=>by omega
 | n+1,hk=>by
  unfold Xv
  by_cases hkn:k=n
  ·subst hkn;rw [JS h]<;>rfl
  ·rw [Pm h hf (n:=n) (by omega),decide_eq_true hf,cond_true]
def B5 (ev:Evl) (args mt:List Int) (k:Nat):List Int:=(List.range args.length).map fun i=>if i<k then (DU ev (args.getD i 0) (mt.getD i 0)).1 else 0
theorem Cf {ev:Evl} {args mt:List Int} {k:Nat}:(B5 ev args mt k).length=args.length:=by simp [B5]
theorem EM {ev:Evl} {args mt:List Int} {k i:Nat} (hi:i<args.length):(B5 ev args mt k).getD i 0=if i<k then (DU ev (args.getD i 0) (mt.getD i 0)).1 else 0:=by
 simp [B5,List.getD,hi]
theorem Od {ev:Evl} {args mt:List Int}:B5 ev args mt args.length=Mj ev args mt:=by
 unfold B5 Mj
 apply List.map_congr_left
 intro i hi
 rw [if_pos (List.mem_range.1 hi)]
theorem AaD {e:D.Env} {ev:Evl} {x:D.Expr} (hE:B3 e) (h:EvS e x.A (ev x.A)) (ha:∀ a∈x.Args,EvS e a (ev a)) (hl:x.Args.length<=8) (hm:x.Match.length=x.Args.length):Ai Tryz.prog 83 [] [.tp (Af e),.agg (Az x)] [] (vII (QH e ev x)):=by
 refine Ag Ak Aj Tryz.func83 (by kernel_rfl) rfl (AcZ _ _ e x) ⟨Dl e ev x.A,Kj h,fun h=>Bp (ct (by simpa using h) rfl),fun h=>?_⟩
 have h0:decide ((Dl e ev x.A).2≠0)=false:=by simpa using h
 have hq:QH e ev x=bif decide ((BC e.M (Cl e (Dl e ev x.A).1).Shape).Fields.length≠x.Args.length) then (0,49)
   else bif decide (Ei ev x.Args x.Match x.Args.length≠0) then (0,Ei ev x.Args x.Match x.Args.length)
   else DC (decide (0<=I4 (Cl e (Dl e ev x.A).1) (Mj ev x.Args x.Match) x.Match (decide (x.N=1)))):=by unfold QH;rw [h0]<;>rfl
 rw [hq]
 have hn:=Sz hE (of_decide_eq_false h0)
 generalize (Dl e ev x.A).1=n at hn
 rw [A1 (by omega) (by omega)]
 have hcm:=Au (d:=default) (show (n - 1).toNat<e.S.Chans.length by omega)
 have hc:=hE.chan hcm
 have hs:=(EW hc).1
 have hql:=(hE.fit.q _ hcm).1
 refine ⟨by omega,hs,fun h1=>Bp (ct ?_ rfl),fun h1=>⟨by omega,?_⟩⟩
 ·rw [AJ] at h1
  have:=of_decide_eq_true h1
  rw [decide_eq_true_eq]
  intro hh
  apply this
  have hh':(e.M.Shapes.getD (e.S.Chans.getD (n - 1).toNat default).Shape.toNat default).Fields.length=x.Args.length:=hh
  rw [hh']
 have h1':decide ((BC e.M (Cl e n).Shape).Fields.length≠x.Args.length)=false:=by
  rw [AJ] at h1
  have:=of_decide_eq_false h1
  rw [decide_eq_false_iff_not]
  intro hh
  apply this
  intro h2
  apply hh
  exact Int.ofNat.inj h2
 rw [h1',cond_false]
 have hcdef:e.S.Chans.getD (n - 1).toNat default=Cl e n:=rfl
 clear hq h1 hs hc
 generalize Cl e n=c at hcdef
 have hqc:c.Queue.length<=16:=by rw [← hcdef];exact hql
 refine Bh Ak Aj (fun gg st=>∃ k:Nat,k<=x.Args.length/\gg=x.Args.length - k/\(∀ i,i<k->(DU ev (x.Args.getD i 0) (x.Match.getD i 0)).2=0)/\st=V2 e x c (B5 ev x.Args x.Match k) k) (by kernel_rfl) (by kernel_rfl)
  ⟨x.Args.length,Up.mk (l':=[(0,.tp (Af e)),(3,.bp 0 0),(8,.bp 1 0),(9,.ow 2 0 (B5 ev x.Args x.Match 0).length),(51,Ad true x.Args),(52,Aa x.Args.length),(53,Aa ((0:Nat):Int))])
   (hs':=[.box (Az x),.box (AF c),.arr true 0 (B5 ev x.Args x.Match 0).length 1 (AG (B5 ev x.Args x.Match 0))]) ?_ ?_ ⟨0,Nat.zero_le _,rfl,fun i hi=>by omega,rfl⟩⟩ ?_
 ·rw [Cf];exact AY _
 ·rw [Cf]
  refine ⟨Ob.le_refl _,by rw [← hcdef];exact Ob.le_refl _,Ob.le_arr fun i hi=>A2 ?_,trivial⟩
  have hz:AG (B5 ev x.Args x.Match 0) i=[Aa 0]:=by
   unfold AG
   rw [EM (by omega),if_neg (Nat.not_lt_zero _)]
  refine Eq.trans ?_ hz.symm
  rfl
 ·rintro gg st ⟨k,hk,rfl,hI,rfl⟩
  refine Bb.raw (AaE _ _ e x c _ k _) ⟨fun hlt=>?_,fun hge=>?_⟩
  ·have hlt':k<x.Args.length:=by have:=AQ hlt;omega
   have hto:(k:Int).toNat=k:=by omega
   rw [hto]
   refine ⟨by omega,by omega,fun hy=>?_,fun hy=>⟨ev (x.Args.getD k 0),ha _ (Au hlt'),by rw [Cf];omega,fun hz=>Bp ?_,fun hz=>?_⟩⟩
   ·rw [AJ] at hy
    have h1:=of_decide_eq_true hy
    have hv:DU ev (x.Args.getD k 0) (x.Match.getD k 0)=(0,0):=by unfold DU;rw [decide_eq_false h1]<;>rfl
    have e1:B5 ev x.Args x.Match k=B5 ev x.Args x.Match (k+1):=by
     unfold B5
     apply List.map_congr_left
     intro i _
     by_cases hik:i=k
     ·subst hik;rw [if_neg (Nat.lt_irrefl _),if_pos (Nat.lt_succ_self _),hv]
     ·by_cases hlt2:i<k
      ·rw [if_pos hlt2,if_pos (by omega)]
      ·rw [if_neg hlt2,if_neg (by omega)]
    rw [e1,Am (by omega)]
    exact ⟨x.Args.length - (k+1),by omega,Up.of ⟨k+1,by omega,rfl,BE hI (by rw [hv]),rfl⟩⟩
   ·have hm1:decide (x.Match.getD k 0=1)=true:=by rw [AJ] at hy;simpa using hy
    have hv:DU ev (x.Args.getD k 0) (x.Match.getD k 0)=ev (x.Args.getD k 0):=by unfold DU;rw [hm1]<;>rfl
    have hnz:(DU ev (x.Args.getD k 0) (x.Match.getD k 0)).2≠0:=by rw [hv];simpa using hz
    have he:Ei ev x.Args x.Match x.Args.length=(ev (x.Args.getD k 0)).2:=by
     unfold Ei
     rw [Pm (f:=fun i=>(DU ev (x.Args.getD i 0) (x.Match.getD i 0)).2) hI hnz hlt',hv]
    rw [he]
    exact ct (by simpa using hz) rfl
   ·have hm1:decide (x.Match.getD k 0=1)=true:=by rw [AJ] at hy;simpa using hy
    have hv:DU ev (x.Args.getD k 0) (x.Match.getD k 0)=ev (x.Args.getD k 0):=by unfold DU;rw [hm1]<;>rfl
    have h2:(ev (x.Args.getD k 0)).2=0:=by simpa using hz
    rw [Am (by omega)]
    refine ⟨x.Args.length - (k+1),by omega,Up.mk (l':=[(0,.tp (Af e)),(3,.bp 0 0),(8,.bp 1 0),(9,.ow 2 0 (B5 ev x.Args x.Match (k+1)).length),(51,Ad true x.Args),(52,Aa x.Args.length),(53,Aa ((k+1:Nat):Int))])
     (hs':=[.box (Az x),.box (AF c),.arr true 0 (B5 ev x.Args x.Match (k+1)).length 1 (AG (B5 ev x.Args x.Match (k+1)))]) ?_ ?_ ⟨k+1,by omega,rfl,BE hI (by rw [hv];exact h2),rfl⟩⟩
    ·rw [Cf,Cf];exact AY _
    ·rw [Cf,Cf]
     refine ⟨Ob.le_refl _,Ob.le_refl _,Ob.le_arr fun i hi=>A2 ?_,trivial⟩
     show (bif i.beq k then [Aa (ev (x.Args.getD k 0)).1] else [Aa ((B5 ev x.Args x.Match k).getD i 0)])=[Aa ((B5 ev x.Args x.Match (k+1)).getD i 0)]
     rw [EM hi,EM hi]
     cases hq:i.beq k with
     | true =>
      have:=Nat.eq_of_beq_eq_true hq;subst this
      rw [cond_true,if_pos (Nat.lt_succ_self _),hv]
     | false =>
      have:i≠k:=Nat.ne_of_beq_eq_false hq
      rw [cond_false]
      by_cases hlt2:i<k
      ·rw [if_pos hlt2,if_pos (by omega)]
      ·rw [if_neg hlt2,if_neg (by omega)]
  ·obtain rfl:k=x.Args.length:=by have:=AT hge;omega
   have he:Ei ev x.Args x.Match x.Args.length=0:=JS hI
   rw [he,Od]
   refine ⟨_,Q2 (by unfold Len;omega) (by unfold Len;omega),_,CQ,Bp (cf rfl ?_)⟩
   rw [ieq]
end Go.Proofs.YtiaebjpcgjkhoaaGreatDoor
namespace Go.Proofs.YtiaebjpcgjkhoaaGreatDoor
open Go.RowKit
theorem Uw {e:D.Env} {ev:Evl} {v:D.Var} (hE:B3 e) (hv:Hq v) (hw:¬ (v.Scope=0∨v.Scope=1)->EvS e v.Who (ev v.Who)):Ai Tryz.prog 116 [] [.tp (Af e),.agg (Bj v)] [] (vII (C8 e ev v)):=by
 have hp:=hE.pid
 refine Ag Ak Aj Tryz.func116 (by kernel_rfl) rfl (Xh _ _ e v) ⟨fun h=>⟨_,Gf hv,fun h1=>Bp ?_,fun h1=>Bp ?_⟩,fun h=>⟨fun h1=>⟨_,fun _=>Gf hv,fun h2=>?_,fun h2=>Bp ?_,fun h2=>Bp ?_⟩,fun h1=>⟨_,hw ?_,fun h2=>Bp ?_,fun h2=>⟨fun h3=>?_,fun h3=>Bp ?_,fun h3=>⟨_,Gf hv,?_,fun h4=>Bp ?_,fun h4=>Bp ?_⟩⟩⟩⟩⟩
 ·exact ct (by simpa using h) (ct h1 rfl)
 ·exact ct (by simpa using h) (cf h1 rfl)
 ·simp at h2;omega
 ·exact cf (by simpa using h) (ct (by simpa using h1) (ct (by rw [Bd] at h2;exact h2) rfl))
 ·exact cf (by simpa using h) (ct (by simpa using h1) (cf (by rw [Bd] at h2;exact h2) rfl))
 ·simp at h h1;omega
 ·exact cf (by simpa using h) (cf (by simpa using h1) (ct (by simpa using h2) rfl))
 ·simp at h3;omega
 ·refine cf (by simpa using h) (cf (by simpa using h1) (cf (by simpa using h2) (ct ?_ rfl)))
  simp only [Bd,AJ,ge_iff_le,Bool.or_assoc] at h3;exact h3
 ·simp at h3;omega
 ·refine cf (by simpa using h) (cf (by simpa using h1) (cf (by simpa using h2) (cf ?_ (ct h4 rfl))))
  simp only [Bd,AJ,ge_iff_le,Bool.or_assoc] at h3;exact h3
 ·refine cf (by simpa using h) (cf (by simpa using h1) (cf (by simpa using h2) (cf ?_ (cf h4 rfl))))
  simp only [Bd,AJ,ge_iff_le,Bool.or_assoc] at h3;exact h3
theorem Pp {ev:Evl} {n:Int} {d:D.Dim} {l:List D.Dim}:Fg ev n (d::l)=bif decide ((ev d.I).2≠0) then (0,(ev d.I).2) else bif decide ((ev d.I).1<0)||decide (d.Len<=(ev d.I).1) then (0,47) else Fg ev (n+(ev d.I).1*d.Stride) l:=rfl
structure Ad8 (d:D.Dim):Prop where
 l1:1<=d.Len
 l2:d.Len<=128
 s1:0<=d.Stride
 s2:d.Stride<=128
theorem Ac7 {i s n:Int} (h0:0<=i) (h1:i<n) (h2:n<=128) (s0:0<=s) (s1:s<=128):0<=i*s/\i*s<=(n - 1)*s/\(n - 1)*s<=16384:=by
 have a:=Int.mul_nonneg h0 s0
 have b:=Int.mul_le_mul_of_nonneg_right (show i<=n - 1 by omega) s0
 have c:=Int.mul_le_mul (show n - 1<=128 by omega) s1 s0 (by omega)
 omega
theorem ZO {e:D.Env} {ev:Evl} {x:Int} (hE:B3 e) (hx:0<=x/\x<e.M.Exprs.length) (hv:Hq (Ar e.M x).V) (hw:(Ar e.M x).Op=2->¬ ((Ar e.M x).V.Scope=0∨(Ar e.M x).V.Scope=1)->EvS e (Ar e.M x).V.Who (ev (Ar e.M x).V.Who))
  (hs:(Ar e.M x).Op=2->0<=(Ar e.M x).V.Slot/\(Ar e.M x).V.Slot<=128/\(Ar e.M x).V.Dims.length<=4) (hd:(Ar e.M x).Op=2->∀ d∈(Ar e.M x).V.Dims,Ad8 d/\EvS e d.I (ev d.I)):Ai Tryz.prog 80 [] [.tp (Af e),Aa x] [] (Lb (BH e ev (Ar e.M x))):=by
 refine Ag Ak Aj Tryz.func80 (by kernel_rfl) rfl (Acm _ _ _ e x) ⟨hx,hx,fun h=>LV (ct (by simpa [Ar] using h) rfl),fun h=>?_⟩
 have h0:(Ar e.M x).Op=2:=by simpa [Ar] using h
 change ∃ y:Int × Int,Ai Tryz.prog 116 [] [.tp (Af e),.agg (Bj (Ar e.M x).V)] [] (vII y)/\_
 replace hw:=hw h0
 replace hs:=hs h0
 replace hd:=hd h0
 have hq:BH e ev (Ar e.M x)=bif decide ((C8 e ev (Ar e.M x).V).2≠0) then (0,0,(C8 e ev (Ar e.M x).V).2)
   else bif decide ((Fg ev (Ar e.M x).V.Slot (Ar e.M x).V.Dims).2≠0) then (0,0,(Fg ev (Ar e.M x).V.Slot (Ar e.M x).V.Dims).2) else ((C8 e ev (Ar e.M x).V).1,(Fg ev (Ar e.M x).V.Slot (Ar e.M x).V.Dims).1,0):=by
  unfold BH;rw [decide_eq_false (by rw [h0];simp)];rfl
 rw [hq]
 refine ⟨_,Uw hE hv hw,fun h1=>LV (ct (by simpa using h1) rfl),fun h1=>?_⟩
 have h1':decide ((C8 e ev (Ar e.M x).V).2≠0)=false:=by simpa using h1
 rw [h1',cond_false]
 generalize (C8 e ev (Ar e.M x).V).1=who
 have hsl:=hs.1
 have hsl2:=hs.2
 change AA _ [1,1,1,1,1,1,0,1,0] (OI e (Ar e.M x).V.Dims who (Ar e.M x).V.Slot 0)
 clear hq hw hv h h1 h1' hs
 generalize (Ar e.M x).V.Dims=ds at hd hsl2 ⊢
 generalize (Ar e.M x).V.Slot=sl at hsl hsl2 ⊢
 generalize hR:Fg ev sl ds=R
 refine Bh Ak Aj (fun gg st=>∃ (k:Nat) (n:Int),k<=ds.length/\gg=ds.length - k/\0<=n/\n<=128+16384*k/\Fg ev n (ds.drop k)=R/\st=OI e ds who n k) (by kernel_rfl) (by kernel_rfl)
  ⟨ds.length,Up.of ⟨0,sl,Nat.zero_le _,rfl,hsl,by omega,hR,rfl⟩⟩ ?_
 rintro gg st ⟨k,n,hk,rfl,hn0,hn1,hI,rfl⟩
 refine Bb.raw (ZP _ _ _ e x ds who n k _) ⟨fun hlt=>?_,fun hge=>?_⟩
 ·have hlt':k<ds.length:=by have:=AQ hlt;omega
  have hto:(k:Int).toNat=k:=by omega
  rw [hto]
  obtain ⟨hD,hE'⟩:=hd _ (Au (d:=default) hlt')
  rw [B4 (d:=default) hlt',Pp] at hI
  generalize ds.getD k default=d at hD hE' hI ⊢
  refine ⟨by omega,_,hE',fun h2=>LV ?_,fun h2=>⟨fun h3=>LV ?_,fun h3=>?_⟩⟩
  ·have h2':decide ((ev d.I).2≠0)=true:=by simpa using h2
   rw [h2',cond_true] at hI
   subst hI
   exact ct h2' rfl
  ·have h2':decide ((ev d.I).2≠0)=false:=by simpa using h2
   rw [Bd] at h3
   rw [h2',cond_false] at hI
   have h3':(decide ((ev d.I).1<0)||decide (d.Len<=(ev d.I).1))=true:=h3
   rw [h3',cond_true] at hI
   subst hI
   exact ct rfl rfl
  ·have h2':decide ((ev d.I).2≠0)=false:=by simpa using h2
   rw [Bd] at h3
   have h3':(decide ((ev d.I).1<0)||decide (d.Len<=(ev d.I).1))=false:=h3
   rw [h2',cond_false,h3',cond_false] at hI
   simp only [Bool.or_eq_false_iff,decide_eq_false_iff_not] at h3'
   have hm:=Ac7 (i:=(ev d.I).1) (s:=d.Stride) (n:=d.Len) (by omega) (by omega) hD.l2 hD.s1 hD.s2
   have hk4:k<4:=by omega
   rw [A1 (n:=(ev d.I).1*d.Stride) (by omega) (by omega),A1 (by omega) (by omega),Am (by omega)]
   exact ⟨ds.length - (k+1),by omega,Up.of ⟨k+1,n+(ev d.I).1*d.Stride,by omega,rfl,by omega,by omega,hI,rfl⟩⟩
 ·obtain rfl:k=ds.length:=by have:=AT hge;omega
  rw [List.drop_length] at hI
  subst hI
  exact LV (cf rfl rfl)
end Go.Proofs.YtiaebjpcgjkhoaaGreatDoor
namespace Go.Proofs.YtiaebjpcgjkhoaaGreatDoor
open Go.RowKit
theorem PW {e:D.Env} (hE:B3 e):Ai Tryz.prog 85 [] [.tp (Af e)] [] (Ac (JH e)):=by
 have hpl:=hE.fit.p
 refine Ag Ak Aj Tryz.func85 (by kernel_rfl) rfl (R3 _ e) ?_
 refine AD Ak Aj e.S.Procs.length (fun k=>RK e k) (fun k=>∀ i,i<k->(!((IY e.M (e.S.Procs.getD i default).Type_).getD (e.S.Procs.getD i default).Loc.toNat default).Progress)=true) (by kernel_rfl) (by kernel_rfl) (fun i hi=>by omega) ?_
 intro k hk hI J next
 refine Bb.raw (PX _ e k J) ⟨fun hlt=>?_,fun hge=>Ao ?_⟩
 ·have hlt':k<e.S.Procs.length:=by have:=AQ hlt;omega
  have hto:(k:Int).toNat=k:=by omega
  rw [hto]
  have hf:=D4 (hE.proc (Au (d:=default) hlt'))
  refine ⟨by omega,hf.1,hf.2.1,fun hy=>Ao ?_,fun hy=>next _ hlt' (BE hI ?_) (Up.of ?_)⟩
  ·unfold JH
   rw [Bo (f:=fun i=>!((IY e.M (e.S.Procs.getD i default).Type_).getD (e.S.Procs.getD i default).Loc.toNat default).Progress) hlt' (by show (!_)=false;unfold IY;rw [hy]<;>rfl)];rfl
  ·show (!_)=true
   unfold IY;rw [hy]<;>rfl
  ·rw [Am (by omega)]<;>rfl
 ·have hge':e.S.Procs.length<=k:=by have:=AT hge;omega
  unfold JH
  rw [AL.2 fun i hi=>hI i (by omega)]<;>rfl
structure U8 (m:D.Model) (k:Int) (x:D.Expr):Prop where
 op:1<=x.Op/\x.Op<=39
 a:1<=AH x.Op->0<=x.A/\x.A<k
 b:2<=AH x.Op->0<=x.B/\x.B<k
 c:3<=AH x.Op->0<=x.C/\x.C<k
 num:x.Op=1->Ci ⟨32,true⟩ x.N=true
 var:x.Op=2->CM m k x.V=true
 poll:x.Op=30->Bt m k x.Args x.Match=true
theorem R5 {k op p:Int} {i:Nat} (h:Du k op i p=true) (hi:i<AH op):0<=p/\p<k:=by
 unfold Du at h
 rw [decide_eq_true hi,cond_true] at h
 exact Cz.1 h
theorem YD {m:D.Model} {k:Int} (h:Dd m k=true):U8 m k (Ar m k):=by
 unfold Dd at h
 simp only [Bool.and_eq_true,decide_eq_true_eq] at h
 obtain ⟨⟨h1,⟨hA,hB⟩,hC⟩,h3⟩:=h
 refine ⟨h1,fun hi=>R5 hA (by omega),fun hi=>R5 hB (by omega),fun hi=>R5 hC (by omega),fun ho=>?_,fun ho=>?_,fun ho=>?_⟩
 ·rw [if_pos ho] at h3;exact h3
 ·rw [if_neg (by omega),if_pos ho] at h3;exact h3
 ·rw [if_neg (by omega),if_neg (by omega),if_pos ho,Bool.and_eq_true] at h3;exact h3.1
theorem AaU {k:Int} {l:List Int} (h:BL k l=true):∀ a∈l,0<=a/\a<k:=fun a ha =>
 Cz.1 ((Ck (d:=0) (f:=fun a=>inP k a)).1 h a ha)
structure YP (m:D.Model) (k:Int) (v:D.Var):Prop where
 scope:0<=v.Scope/\v.Scope<=2
 slot:0<=v.Slot/\v.Slot<=128
 dims:v.Dims.length<=4
 who:v.Scope=2->0<=v.Who/\v.Who<k
 dim:∀ d∈v.Dims,Ad8 d/\0<=d.I/\d.I<k
theorem Kn {m:D.Model} {k:Int} {v:D.Var} (h:CM m k v=true):YP m k v:=by
 unfold CM at h
 simp only [Bool.and_eq_true,decide_eq_true_eq] at h
 obtain ⟨⟨⟨⟨⟨⟨h1,h2⟩,h3⟩,h4⟩,h5⟩,h6⟩,h7⟩:=h
 refine ⟨⟨h1,h2⟩,⟨h3,h4⟩,h5,fun hs=>?_,fun d hd=>?_⟩
 ·rw [decide_eq_true hs,cond_true,Bool.and_eq_true] at h6;exact Cz.1 h6.1
 ·have:=(Ck (d:=default) (f:=fun d=>Ib k d)).1 h7 d hd
  unfold Ib at this
  simp only [Bool.and_eq_true,decide_eq_true_eq] at this
  obtain ⟨⟨⟨⟨a1,a2⟩,a3⟩,a4⟩,a5⟩:=this
  have:=Cz.1 a1
  exact ⟨⟨a2,a3,a4,a5⟩,this⟩
theorem YJ {ev:Evl}:∀ {l:List D.Dim} {n r k:Int},(∀ d∈l,Ad8 d)->0<=n->n<r->(Fg ev n l).2=0->(Fg ev n l).1=k->0<=k/\k<C9 r l
 | [],n,r,k,_,h0,h1,_,hk=>by subst hk;exact ⟨h0,h1⟩
 | d::l,n,r,k,hd,h0,h1,h2,hk=>by
  have hD:=hd d (List.mem_cons_self ..)
  rw [Pp] at h2 hk
  cases c1:decide ((ev d.I).2≠0) with
  | true=>rw [c1,cond_true] at h2;exact absurd h2 (of_decide_eq_true c1)
  | false =>
   rw [c1,cond_false] at h2 hk
   cases c2:(decide ((ev d.I).1<0)||decide (d.Len<=(ev d.I).1)) with
   | true=>rw [c2,cond_true] at h2;simp at h2
   | false =>
    rw [c2,cond_false] at h2 hk
    simp only [Bool.or_eq_false_iff,decide_eq_false_iff_not] at c2
    have hm:=Ac7 (i:=(ev d.I).1) (s:=d.Stride) (n:=d.Len) (by omega) (by omega) hD.l2 hD.s1 hD.s2
    have:=YJ (r:=r+(d.Len - 1)*d.Stride) (fun x hx=>hd x (List.mem_cons_of_mem _ hx)) (by omega) (by omega) h2 hk
    have hb:Gq d=false:=by
     have:=hD.l1;have:=hD.l2;have:=hD.s1;have:=hD.s2
     unfold Gq;simp;omega
    show 0<=k/\k<C9 r (d::l)
    unfold C9
    rw [hb,cond_false]
    exact this
structure PM (e:D.Env) (who k:Int):Prop where
 glob:who<0->0<=k/\k<e.S.Globals.length
 own:0<=who->who<e.S.Procs.length/\0<=k/\k<(Dp e who).Frame.length
theorem Aat {m:D.Model} {k:Int} {v:D.Var} (h:YP m k v):CK v=C9 (v.Slot+1) v.Dims:=by
 have h1:=h.slot;have h2:=h.dims
 unfold CK
 have:(decide (v.Slot<0)||(decide (1073741824<v.Slot)||decide (4<v.Dims.length)))=false:=by simp;omega
 rw [this,cond_false]
theorem RN {e:D.Env} {ev:Evl} {x:D.Expr} {k:Int} (hE:B3 e) (hv:x.Op=2->YP e.M k x.V) (h:(BH e ev x).2.2=0):PM e (BH e ev x).1 (BH e ev x).2.1:=by
 have hpid:=hE.pid
 unfold BH at h ⊢
 cases c0:decide (x.Op≠2) with
 | true=>rw [c0,cond_true] at h;simp at h
 | false =>
  rw [c0,cond_false] at h
  rw [cond_false]
  have hv:=hv (by simpa using c0)
  have hr:=Aat hv
  cases c1:decide ((C8 e ev x.V).2≠0) with
  | true=>rw [c1,cond_true] at h;exact absurd h (of_decide_eq_true c1)
  | false =>
   rw [c1,cond_false] at h
   rw [cond_false]
   cases c2:decide ((Fg ev x.V.Slot x.V.Dims).2≠0) with
   | true=>rw [c2,cond_true] at h;exact absurd h (of_decide_eq_true c2)
   | false =>
    rw [cond_false]
    have hd:=YJ (ev:=ev) (l:=x.V.Dims) (n:=x.V.Slot) (r:=x.V.Slot+1) (fun d hd=>(hv.dim d hd).1) hv.slot.1 (by omega) (by simpa using c2) rfl
    rw [← hr] at hd
    show PM e (C8 e ev x.V).1 (Fg ev x.V.Slot x.V.Dims).1
    generalize (Fg ev x.V.Slot x.V.Dims).1=n at hd
    unfold C8 at c1 ⊢
    cases d1:decide (x.V.Scope=0) with
    | true =>
     rw [d1,cond_true] at c1
     rw [cond_true]
     cases d2:decide ((e.S.Globals.length:Int)<CK x.V) with
     | true=>rw [d2,cond_true] at c1;simp at c1
     | false =>
      have:=of_decide_eq_false d2
      exact ⟨fun _=>⟨hd.1,by omega⟩,fun h=>by simp at h⟩
    | false =>
     rw [d1,cond_false] at c1
     rw [cond_false]
     cases d2:decide (x.V.Scope=1) with
     | true =>
      rw [d2,cond_true] at c1
      rw [cond_true]
      cases d3:(decide (e.Pid<0)||decide (((Dp e e.Pid).Frame.length:Int)<CK x.V)) with
      | true=>rw [d3,cond_true] at c1;simp at c1
      | false =>
       simp only [Bool.or_eq_false_iff,decide_eq_false_iff_not] at d3
       exact (show PM e e.Pid n from ⟨fun h=>absurd h d3.1,fun _=>⟨hpid.2,hd.1,by omega⟩⟩)
     | false =>
      rw [d2,cond_false] at c1
      rw [cond_false]
      cases d3:decide ((ev x.V.Who).2≠0) with
      | true=>rw [d3,cond_true] at c1;rw [d3] at c1;exact absurd c1 (by simp)
      | false =>
       rw [d3,cond_false] at c1
       rw [cond_false]
       cases d4:(decide ((ev x.V.Who).1<0)||(decide ((e.S.Procs.length:Int)<=(ev x.V.Who).1)||decide ((Dp e (ev x.V.Who).1).Type_≠x.V.Type_))) with
       | true=>rw [d4,cond_true] at c1;simp at c1
       | false =>
        rw [d4,cond_false] at c1
        rw [cond_false]
        simp only [Bool.or_eq_false_iff,decide_eq_false_iff_not] at d4
        cases d5:decide (((Dp e (ev x.V.Who).1).Frame.length:Int)<CK x.V) with
        | true=>rw [d5,cond_true] at c1;simp at c1
        | false =>
         have:=of_decide_eq_false d5
         exact (show PM e (ev x.V.Who).1 n from ⟨fun h=>absurd h d4.1,fun _=>⟨by omega,hd.1,by omega⟩⟩)
theorem NM {m:D.Model} {k:Int} {a t:List Int} (h:Bt m k a t=true):a.length<=8/\t.length=a.length/\∀ x∈a,0<=x/\x<k:=by
 unfold Bt at h
 simp only [Bool.and_eq_true,decide_eq_true_eq] at h
 exact ⟨h.1.1.1.2,h.1.1.2,AaU h.1.2⟩
theorem Xr {m:D.Model} {x:Int} (hx:0<=x/\x<m.Exprs.length):Ar m x∈m.Exprs:=Au (d:=default) (by omega)
theorem Ad3 {e:D.Env} {x:Int} (hE:B3 e) (hx:0<=x/\x<e.M.Exprs.length):Len (Ar e.M x).Args.length:=by
 have:=(hE.wf.Exprs.2 _ (Xr hx)).Args.1
 unfold Len;omega
theorem Yb {e:D.Env} {ev:Evl} {x:Int} (hE:B3 e) (hx:0<=x/\x<e.M.Exprs.length) (hok:U8 e.M x (Ar e.M x)) (hev:∀ a,0<=a->a<x->EvS e a (ev a)):Ai Tryz.prog 80 [] [.tp (Af e),Aa x] [] (Lb (BH e ev (Ar e.M x))):=by
 refine ZO hE hx (hE.wf.Exprs.2 _ (Xr hx)).V (fun ho hs=>?_) (fun ho=>?_) (fun ho d hd=>?_)
 ·have hv:=Kn (hok.var ho)
  have h1:=hv.scope
  exact hev _ (hv.who (by omega)).1 (hv.who (by omega)).2
 ·have hv:=Kn (hok.var ho)
  exact ⟨hv.slot.1,hv.slot.2,hv.dims⟩
 ·have hv:=Kn (hok.var ho)
  exact ⟨(hv.dim d hd).1,hev _ (hv.dim d hd).2.1 (hv.dim d hd).2.2⟩
theorem Aas {e:D.Env} {ev:Evl} {x:Int} (hE:B3 e) (hop:(e.M.Exprs.getD x.toNat default).Op=2) (hok:U8 e.M x (Ar e.M x)) (hsl:Ai Tryz.prog 80 [] [.tp (Af e),Aa x] [] (Lb (BH e ev (Ar e.M x)))) :
  ∃ y:Int × Int × Int,Ai Tryz.prog 80 [] [.tp (Af e),Aa x] [] (Lb y)/\((y.2.2 != 0)=true->leO [] []/\VV.le (.tup [.sc (.int .i64 0),.sc (.int .i64 y.2.2)]) (vII (De e ev (Ar e.M x))))/\((y.2.2 != 0)=false ->
   (decide (y.1<0)=true->(0<=y.2.1/\y.2.1<(e.S.Globals.length:Int))/\leO [] []/\VV.le (.tup [.sc (.int .i64 (e.S.Globals.getD y.2.1.toNat 0)),.sc (.int .i64 0)]) (vII (De e ev (Ar e.M x)))) /\
   (decide (y.1<0)=false->(0<=y.1/\y.1<(e.S.Procs.length:Int))/\(0<=y.2.1/\y.2.1<((e.S.Procs.getD y.1.toNat default).Frame.length:Int))/\leO [] []/\VV.le (.tup [.sc (.int .i64 ((e.S.Procs.getD y.1.toNat default).Frame.getD y.2.1.toNat 0)),.sc (.int .i64 0)]) (vII (De e ev (Ar e.M x))))):=by
 have hop':(Ar e.M x).Op=2:=hop
 have he:De e ev (Ar e.M x)=Ye e ev (Ar e.M x):=by unfold De;rw [hop']<;>rfl
 rw [he]
 have hin:=RN (e:=e) (ev:=ev) hE (fun ho=>Kn (hok.var ho))
 refine ⟨BH e ev (Ar e.M x),hsl,fun h=>Bp (ct (by simpa using h) rfl),fun h=>⟨fun h1=>?_,fun h1=>?_⟩⟩
 ·have h0:decide ((BH e ev (Ar e.M x)).2.2≠0)=false:=by simpa using h
  exact ⟨(hin (by simpa using h0)).glob (of_decide_eq_true h1),Bp (cf h0 (ct h1 rfl))⟩
 ·have h0:decide ((BH e ev (Ar e.M x)).2.2≠0)=false:=by simpa using h
  have hi:=hin (by simpa using h0)
  have:=of_decide_eq_false h1
  exact ⟨⟨by omega,(hi.own (by omega)).1⟩,(hi.own (by omega)).2,Bp (cf h0 (cf h1 rfl))⟩
theorem AbI {e:D.Env} {ev:Evl} {x:Int} (hop:(e.M.Exprs.getD x.toNat default).Op=36) (h:EvS e (Ar e.M x).A (ev (Ar e.M x).A)) :
  ∃ y:Int × Int,Ai Tryz.prog 52 [] [.tp (Af e),Aa (Ar e.M x).A] [] (vII y)/\((y.2 != 0)=true->leO [] []/\VV.le (.tup [.sc (.int .i64 0),.sc (.int .i64 y.2)]) (vII (De e ev (Ar e.M x))))/\((y.2 != 0)=false ->
   ((true&&(bif decide (y.1>=0) then decide (y.1<(e.Able.length:Int)) else false)==true)=true->0<=y.1/\y.1<(e.Able.length:Int)) /\
   ∃ y1:Int × Int,Ai Tryz.prog 84 [] [Ac (bif bif decide (y.1>=0) then decide (y.1<(e.Able.length:Int)) else false then e.Able.getD y.1.toNat false else false)] [] (vII y1)/\leO [] []/\VV.le (vII y1) (vII (De e ev (Ar e.M x)))):=by
 have hop':(Ar e.M x).Op=36:=hop
 have he:De e ev (Ar e.M x)=YO e ev (Ar e.M x):=by unfold De;rw [hop']<;>rfl
 rw [he]
 refine ⟨_,h,fun h1=>Bp (ct (by simpa using h1) rfl),fun h1=>⟨fun h2=>?_,_,CQ,Bp (cf (by simpa using h1) ?_)⟩⟩
 ·simp at h2;omega
 ·simp only [AM,ge_iff_le,Bool.and_assoc]
theorem Ac5 {o:Int} (h:1<=o/\o<=39):o=1∨o=2∨o=3∨o=4∨o=5∨o=6∨o=7∨o=8∨o=9∨o=10∨o=11∨o=12∨o=13∨o=14∨o=15∨o=16∨o=17∨o=18∨o=19∨o=20∨o=21∨o=22∨o=23∨o=24∨o=25∨o=26∨o=27∨o=28∨o=29∨o=30∨o=31∨o=32∨o=33∨o=34∨o=35∨o=36∨o=37∨o=38∨o=39:=by omega
set_option maxHeartbeats 4000000 in
theorem Q5 {e:D.Env} {ev:Evl} {x:Int} (hE:B3 e) (hx:0<=x/\x<e.M.Exprs.length) (hev:∀ a,0<=a->a<x->EvS e a (ev a)):EvS e x (De e ev (Ar e.M x)):=by
 have hxn:((x.toNat:Nat):Int)=x:=by omega
 have hok:U8 e.M x (Ar e.M x):=YD (by have:=hE.expr x.toNat (by omega);rwa [hxn] at this)
 have hsl:=Yb hE hx hok hev
 have hA:1<=AH (Ar e.M x).Op->EvS e (Ar e.M x).A (ev (Ar e.M x).A):=fun h=>hev _ (hok.a h).1 (hok.a h).2
 have hB:2<=AH (Ar e.M x).Op->EvS e (Ar e.M x).B (ev (Ar e.M x).B):=fun h=>hev _ (hok.b h).1 (hok.b h).2
 have hC:3<=AH (Ar e.M x).Op->EvS e (Ar e.M x).C (ev (Ar e.M x).C):=fun h=>hev _ (hok.c h).1 (hok.c h).2
 have c1:=fun b=>EC (c:=BP Tryz.prog tb CU Dh true Tryz.f52 [] (vII (De e ev (Ar e.M x)))) Ak Aj (by kernel_rfl) (Abl _ _ e (Ar e.M x) b)
 have c2:=fun b=>EC (c:=BP Tryz.prog tb CU Dh true Tryz.f52 [] (vII (De e ev (Ar e.M x)))) Ak Aj (by kernel_rfl) (Abk _ _ e (Ar e.M x) b)
 refine Ag Ak Aj Tryz.func52 (by kernel_rfl) rfl (AdC _ _ e x) ⟨hx,?_⟩
 rcases Ac5 (o:=(Ar e.M x).Op) (by have:=hok.op;omega) with ho | ho | ho | ho | ho | ho | ho | ho | ho | ho | ho | ho | ho | ho | ho | ho | ho | ho | ho | ho | ho | ho | ho | ho | ho | ho | ho | ho | ho | ho | ho | ho | ho | ho | ho | ho | ho | ho | ho
 all_goals
  have hop:(e.M.Exprs.getD x.toNat default).Op=_:=ho
  repeat (first
   | refine ⟨fun h=>absurd h (by (first | rw [hop] | rw [ho]);decide),fun _=>?_⟩
   | refine ⟨fun _=>?_,fun h=>absurd h (by (first | rw [hop] | rw [ho]);decide)⟩
   | refine c1 _ ?_
   | refine c2 _ ?_)
  first
   | exact Bp (by unfold De;rw [ho]<;>rfl)
   | exact ⟨_,Qr (hA (by rw [ho];decide)) (fun h=>absurd (by omega) h),Bp (by unfold De;rw [ho]<;>rfl)⟩
   | exact ⟨_,Qr (hA (by rw [ho];decide)) (fun _=>hB (by rw [ho];decide)),Bp (by unfold De;rw [ho]<;>rfl)⟩
   | exact ⟨_,Pd (hA (by rw [ho];decide)) (hB (by rw [ho];decide)) (fun h=>absurd h (by rw [ho];decide)),Bp (by unfold De;rw [ho]<;>rfl)⟩
   | exact ⟨_,Pd (hA (by rw [ho];decide)) (hB (by rw [ho];decide)) (fun _=>hC (by rw [ho];decide)),Bp (by unfold De;rw [ho]<;>rfl)⟩
   | exact ⟨_,AbE hE (hA (by rw [ho];decide)),Bp (by unfold De;rw [ho]<;>rfl)⟩
   | exact ⟨_,TP (hA (by rw [ho];decide)) (Ad3 hE hx),Bp (by unfold De;rw [ho]<;>rfl)⟩
   | exact ⟨_,CQ,Bp (by unfold De;rw [ho]<;>rfl)⟩
   | exact ⟨_,PW hE,_,CQ,Bp (by unfold De;rw [ho]<;>rfl)⟩
   | exact Aas hE hop hok hsl
   | exact AbI hop (hA (by rw [ho];decide))
   | exact ⟨_,AaD hE (hA (by rw [ho];decide)) (fun a ha=>hev _ ((NM (hok.poll ho)).2.2 a ha).1 ((NM (hok.poll ho)).2.2 a ha).2) (NM (hok.poll ho)).1 (NM (hok.poll ho)).2.1,Bp (by unfold De;rw [ho]<;>rfl)⟩
end Go.Proofs.YtiaebjpcgjkhoaaGreatDoor
namespace Go.Proofs.YtiaebjpcgjkhoaaGreatDoor
open Go.RowKit
theorem KG {e:D.Env} (hE:B3 e):∀ (n:Nat) (x:Int),0<=x->x<e.M.Exprs.length->x<n->EvS e x (Q6 e n x)
 | 0,x,h0,_,h2=>by omega
 | n+1,x,h0,h1,h2=>Q5 hE ⟨h0,h1⟩ fun a ha hlt=>KG hE n a ha (by omega) (by omega)
theorem Qt {e:D.Env} (hE:B3 e) {x a:Int} (hx:x<e.M.Exprs.length) (h0:0<=a) (h1:a<x):EvS e a (EO e a):=KG hE _ a h0 (by omega) (by omega)
theorem Xs {e:D.Env} (hE:B3 e) {x:Int} (hx:0<=x/\x<e.M.Exprs.length):EvS e x (De e (EO e) (Ar e.M x)):=Q5 hE hx fun _ h0 h1=>Qt hE hx.2 h0 h1
theorem DT {e:D.Env} (hw:Ay e.M) (hs:A4 e.S) (x:Int):Ai Tryz.prog 51 [] [.agg (Af e),Aa x] [] (Aa (CA e x)):=by
 refine Ag Ak Aj Tryz.func51 (by kernel_rfl) rfl (UJ _ e x) ⟨_,Hv hw hs (fun h=>(Ky h).clp),fun h=>BM (ct (by simpa using h) rfl),fun h=>⟨fun h1=>BM (cf (by simpa using h) (ct ?_ rfl)),fun h1=>BM (cf (by simpa using h) (cf ?_ rfl))⟩⟩
 ·simp only [Bd,ge_iff_le,Bool.or_assoc] at h1;exact h1
 ·simp only [Bd,ge_iff_le,Bool.or_assoc] at h1;exact h1
theorem H8 {e:D.Env} {x:Int} (hw:Ay e.M) (h:CA e x=0):B3 e/\0<=x/\x<e.M.Exprs.length:=by
 unfold CA at h
 cases c1:decide (CY e.M e.S≠0) with
 | true=>rw [c1,cond_true] at h;exact absurd h (of_decide_eq_true c1)
 | false =>
  rw [c1,cond_false] at h
  obtain ⟨h1,h2⟩:=KJ (show CY e.M e.S=0 by simpa using c1)
  cases c2:(decide (e.Pid < -1)||(decide ((e.S.Procs.length:Int)<=e.Pid)||(decide (x<0)||decide ((e.M.Exprs.length:Int)<=x)))) with
  | true=>rw [c2,cond_true] at h;simp at h
  | false =>
   simp only [Bool.or_eq_false_iff,decide_eq_false_iff_not] at c2
   exact ⟨⟨h2,h1,hw,by omega,by omega⟩,by omega,by omega⟩
theorem H9 {e:D.Env} (hw:Ay e.M) (hs:A4 e.S) (x:Int):Ai Tryz.prog 39 [] [.agg (Af e),Aa x] [] (vII (Ba e x)):=by
 refine Ag Ak Aj Tryz.func39 (by kernel_rfl) rfl (Abq _ _ e x) ⟨_,DT hw hs x,fun h=>Bp (ct (by simpa using h) rfl),fun h=>?_⟩
 obtain ⟨hE,hx⟩:=H8 (x:=x) hw (by simpa using h)
 exact ⟨_,Xs hE hx,Bp (cf (by simpa using h) rfl)⟩
theorem Ia {e:D.Env} (hw:Ay e.M) (hs:A4 e.S) (x:Int):Ai Tryz.prog 92 [] [.agg (Af e),Aa x] [] (vII (AC e x)):=by
 refine Ag Ak Aj Tryz.func92 (by kernel_rfl) rfl (Abr _ _ e x) ⟨_,DT hw hs x,fun h=>Bp (ct (by simpa using h) rfl),fun h=>?_⟩
 obtain ⟨hE,hx⟩:=H8 (x:=x) hw (by simpa using h)
 exact ⟨_,Kj (KG hE _ x hx.1 hx.2 hx.2),Bp (cf (by simpa using h) rfl)⟩
end Go.Proofs.YtiaebjpcgjkhoaaGreatDoor
namespace Go.Proofs.YtiaebjpcgjkhoaaGreatDoor
open Go.RowKit
def B33 (n:Int):Prop:=-2147483648<=n/\n<=4294967295
def Q33 (t:Bool) (p:Int × Int):Prop:=p.2=0->B33 p.1/\(t=true->p.1=0∨p.1=1)
theorem Es {t b:Bool}:Q33 t (DC b):=by cases b<;>simp [Q33,B33,DC]
theorem Yg {t:Bool} {a c:Int} (h:c≠0):Q33 t (a,c):=fun h'=>absurd h' h
theorem IQ {t:Bool} {a c:Int} (h:decide (c≠0)=true):Q33 t (a,c):=Yg (of_decide_eq_true h)
theorem Et {t c:Bool} {p q:Int × Int} (h1:c=true->Q33 t p) (h2:c=false->Q33 t q):Q33 t (bif c then p else q):=by
 cases c
 ·exact h2 rfl
 ·exact h1 rfl
theorem Fb {t:Bool} {c:Prop} [Decidable c] {p q:Int × Int} (h1:c->Q33 t p) (h2:¬ c->Q33 t q):Q33 t (if c then p else q):=by
 split
 ·rename_i h;exact h1 h
 ·rename_i h;exact h2 h
theorem M9 {t:Bool} {a c:Int} (h:B33 a) (ht:t=false):Q33 t (a,c):=fun _=>⟨h,fun h=>by rw [ht] at h;cases h⟩
theorem RZ {t:Bool} {p:Int × Int} (h:Q33 t p):Q33 false p:=fun h0=>⟨(h h0).1,fun h=>by cases h⟩
theorem UA {t:D.Type} {v:Int} (h:Ci t v=true):B33 v:=by
 unfold Ci D3 at h
 simp only [Bool.and_eq_true,decide_eq_true_eq] at h
 obtain ⟨⟨h1,h2,h3⟩,h4⟩:=h
 have hp:=AcY t.Bits h1 h2
 unfold B33
 cases hs:t.Signed with
 | false=>rw [hs] at h4;simp at h4;omega
 | true =>
  rw [hs] at h3 h4
  simp at h3 h4
  rcases h3 with h3 | h3
  ·rw [h3] at h4;simp at h4;omega
  ·rw [h3] at h4;simp at h4;omega
theorem Oq {t:List D.Type} {l:List Int} {k:Nat} (h:AX t l=true) (hk:k<l.length):B33 (l.getD k 0):=by
 unfold AX at h
 simp only [Bool.and_eq_true,decide_eq_true_eq] at h
 exact UA (AL.1 h.2 k hk)
theorem Sb {b:Bool}:Hb b=0∨Hb b=1:=by cases b<;>simp [Hb]
def Afn (n:Int):Prop:=-2147483648<=n/\n<=2147483647
theorem CS {c:Prop} [Decidable c] {a b:Int} (h1:Afn a) (h2:Afn b):Afn (if c then a else b):=by
 split
 ·exact h1
 ·exact h2
theorem AfQ (op a b:Int):-2147483648<=DY op a b/\DY op a b<=2147483647:=by
 have ho:∀ b:Bool,-2147483648<=Hb b/\Hb b<=2147483647:=fun b=>by rcases Sb (b:=b) with h | h<;>rw [h]<;>decide
 have hz:(-2147483648:Int)<=0/\(0:Int)<=2147483647:=by decide
 show Afn (DY op a b)
 unfold DY
 exact CS (Bs _) (CS (CS hz (Bs _)) (CS (CS hz (XW _ _ (Bs _).1 (Bs _).2)) (CS (Bs _) (CS (Bs _) (CS (JE _ _ (Bs _)) (CS (JE _ _ (Bs _)) (CS (ho _) (CS (ho _) (CS (ho _) (CS (ho _) (CS (ho _) (CS (ho _) (CS (Ef .and (.inl rfl) _ _) (CS (Ef .xor (.inr (.inr rfl)) _ _) (CS (Ef .or (.inr (.inl rfl)) _ _) hz)))))))))))))))
theorem Zx {op a b:Int} (h:13<=op/\op<=18):DY op a b=0∨DY op a b=1:=by
 obtain ⟨h1,h2⟩:=h
 have:op=13∨op=14∨op=15∨op=16∨op=17∨op=18:=by omega
 rcases this with rfl | rfl | rfl | rfl | rfl | rfl<;>exact Sb
theorem AeN (op a:Int):-2147483648<=Mt op a/\Mt op a<=2147483647:=by
 have hw:=Bs a
 unfold Mt
 split
 ·exact Bs _
 split
 ·rcases Sb (b:=wrap32 a==0) with h | h<;>rw [h]<;>decide
 split
 ·omega
 ·decide
def Jr (op:Int):Bool:=decide (13<=op/\op<=18)||(decide (op=4)||(decide (op=22)||(decide (op=23)||(decide (26<=op/\op<=30)||(decide (op=34)||(decide (op=35)||(decide (op=36)||decide (op=38))))))))
section
variable {e : D.Env} {ev:Evl}
theorem Aff {op a b:Int}:B33 (DY op a b):=by have:=AfQ op a b;unfold B33;omega
theorem Afg {op a:Int}:B33 (Mt op a):=by have:=AeN op a;unfold B33;omega
theorem Agf {x:D.Expr} {t:Bool} (ht:t=true->x.Op=4∨(13<=x.Op/\x.Op<=18)):Q33 t (Qs ev x):=by
 unfold Qs
 refine Et IQ fun _=>Et (fun h _=>⟨Afg,fun h'=>?_⟩) fun h=>Et IQ fun _=>fun _=>⟨Aff,fun h'=>?_⟩
 ·rcases ht h' with h4 | h4
  ·show Mt x.Op _=0∨Mt x.Op _=1
   rw [h4];exact Sb
  ·simp at h;omega
 ·rcases ht h' with h4 | h4
  ·rw [h4] at h;simp at h
  ·exact Zx h4
theorem AeH {x:D.Expr} {t:Bool} (ht:t=true->x.Op≠24) (hB:Q33 false (ev x.B)) (hC:x.Op=24->Q33 false (ev x.C)):Q33 t (Mw ev x):=by
 unfold Mw
 refine Et IQ fun _=>Et (fun h=>?_) fun h=>Et (fun _=>Es) fun _=>Et IQ fun _=>Es
 have h24:=of_decide_eq_true h
 cases t with
 | true=>exact absurd h24 (ht rfl)
 | false=>exact Et (fun _=>hB) fun _=>hC h24
theorem AdO (hE:B3 e) (n:Int):(Cl e n).Queue.length<=16:=by
 unfold Cl
 by_cases h:(n - 1).toNat<e.S.Chans.length
 ·exact (hE.fit.q _ (Au h)).1
 ·rw [List.getD,List.getElem?_eq_none (show e.S.Chans.length<=(n - 1).toNat by omega)];exact Nat.zero_le _
theorem Agi {x:D.Expr} {t:Bool} (hE:B3 e) (ht:t=true->x.Op≠25):Q33 t (Rc e ev x):=by
 have hl:=AdO hE (Dl e ev x.A).1
 unfold Rc
 refine Et IQ fun _=>?_
 unfold AgK
 refine Fb (fun h=>?_) fun _=>Fb (fun _=>Es) fun _=>Fb (fun _=>Es) fun _=>Fb (fun _=>Es) fun _=>Es
 refine M9 (by unfold B33;omega) ?_
 cases t with
 | true=>exact absurd h (ht rfl)
 | false=>rfl
theorem Agh {x:D.Expr} {t:Bool}:Q33 t (QH e ev x):=by
 unfold QH
 exact Et IQ fun _=>Et (fun _=>Yg (by decide)) fun _=>Et IQ fun _=>Es
theorem Agj {x:D.Expr} {t:Bool}:Q33 t (YO e ev x):=by
 unfold YO
 exact Et IQ fun _=>Es
theorem AcS {x:D.Expr} {t:Bool} (hE:B3 e) (ht:t=true->x.Op≠37):Q33 t (JG e ev x):=by
 unfold JG
 refine Et IQ fun _=>Et (fun _=>Yg (by decide)) fun h2=>Et (fun h=>?_) fun _=>Es
 simp only [Bool.or_eq_false_iff,decide_eq_false_iff_not] at h2
 have hp:=D4 (hE.proc (p:=Dp e (ev x.A).1) (Au (d:=default) (show (ev x.A).1.toNat<e.S.Procs.length by omega)))
 have hl:=(Ky hE.may).locs _ hp.1.1 hp.1.2
 have hloc:=hp.2.1
 refine M9 (by unfold B33;omega) ?_
 cases t with
 | true=>exact absurd (of_decide_eq_true h) (ht rfl)
 | false=>rfl
theorem Agg {x:D.Expr} {k:Int} (hE:B3 e) (hv:x.Op=2->YP e.M k x.V):Q33 false (Ye e ev x):=by
 unfold Ye
 refine Et IQ fun h=>?_
 have hs:=RN hE hv (by simpa using h)
 refine Et (fun h1=>?_) fun h1=>?_
 ·have:=hs.glob (of_decide_eq_true h1)
  exact M9 (Oq hE.globals.2 (by omega)) rfl
 ·have h0:0<=(BH e ev x).1:=by have:=of_decide_eq_false h1;omega
  have:=hs.own h0
  have hp:=D4 (hE.proc (p:=Dp e (BH e ev x).1) (Au (d:=default) (show (BH e ev x).1.toNat<e.S.Procs.length by omega)))
  exact M9 (Oq hp.2.2.2.1 (by omega)) rfl
theorem UK {x:D.Expr} {k:Int} (hE:B3 e) (hx:U8 e.M k x) (hB:2<=AH x.Op->Q33 false (ev x.B)) (hC:3<=AH x.Op->Q33 false (ev x.C)) (hl:0<=e.S.Last/\e.S.Last<16):Q33 (Jr x.Op) (De e ev x):=by
 have hpid:=hE.pid
 have hpl:=hE.fit.p
 have tt:∀ {o:Int},Jr o=true->(13<=o/\o<=18)∨o=4∨o=22∨o=23∨(26<=o/\o<=30)∨o=34∨o=35∨o=36∨o=38:=fun h=>by
  simpa only [Jr,Bool.or_eq_true,decide_eq_true_eq] using h
 unfold De
 refine Fb (fun h=>M9 (UA (hx.num h)) (by rw [h]<;>rfl)) fun n1=>Fb (fun h=>?_) fun n2=>Fb (fun h=>?_) fun n3=>Fb (fun h=>?_) fun n4=>Fb (fun _=>Agh) fun n5 =>
  Fb (fun h=>M9 (by unfold B33;omega) (by rw [h]<;>rfl)) fun n6=>Fb (fun h=>M9 (by unfold B33;omega) (by rw [h];rfl)) fun n7=>Fb (fun h=>M9 (by unfold B33;omega) (by rw [h];rfl)) fun n8=>Fb (fun _=>Es) fun n9=>Fb (fun _=>Es) fun n10=>Fb (fun _=>Agj) fun n11=>Fb (fun h=>?_) fun n12=>Fb (fun _=>Yg (by decide)) fun n13=>?_
 ·rw [show Jr x.Op=false by rw [h]<;>rfl]
  exact Agg hE fun ho=>Kn (hx.var ho)
 ·refine AeH (fun ht h'=>by rw [h'] at ht;cases ht) (hB ?_) fun h24=>hC (by rw [h24];decide)
  rcases h with h | h | h<;>rw [h]<;>decide
 ·exact Agi hE fun ht h'=>by rw [h'] at ht;cases ht
 ·exact AcS hE fun ht h'=>by rw [h'] at ht;cases ht
 ·refine Agf fun ht=>?_
  have:=tt ht
  omega
end
theorem B3.last {e:D.Env} (h:B3 e):0<=e.S.Last/\e.S.Last<16:=by
 have h:=h.fits
 unfold Cu Gp at h
 simp only [Bool.and_eq_true,decide_eq_true_eq] at h
 exact ⟨h.1.1.1.1.1.1.2,h.1.1.1.1.1.2⟩
theorem JR {e:D.Env} (hE:B3 e):∀ (n:Nat) (x:Int),0<=x->x<e.M.Exprs.length->x<n->Q33 (Jr (Ar e.M x).Op) (Q6 e n x)
 | 0,x,h0,_,h2=>by omega
 | n+1,x,h0,h1,h2=>by
  have hxn:((x.toNat:Nat):Int)=x:=by omega
  have hok:U8 e.M x (Ar e.M x):=YD (by have:=hE.expr x.toNat (by omega);rwa [hxn] at this)
  exact UK hE hok (fun h=>RZ (JR hE n _ (hok.b h).1 (by have:=hok.b h;omega) (by have:=hok.b h;omega))) (fun h=>RZ (JR hE n _ (hok.c h).1 (by have:=hok.c h;omega) (by have:=hok.c h;omega))) hE.last
theorem Abj {e:D.Env} (hw:Ay e.M) (x:Int):Q33 (Jr (Ar e.M x).Op) (Ba e x):=by
 unfold Ba
 refine Et IQ fun h=>?_
 obtain ⟨hE,h0,h1⟩:=H8 (x:=x) hw (by simpa using h)
 have hxn:((x.toNat:Nat):Int)=x:=by omega
 have hok:U8 e.M x (Ar e.M x):=YD (by have:=hE.expr x.toNat (by omega);rwa [hxn] at this)
 exact UK hE hok (fun h=>RZ (JR hE _ _ (hok.b h).1 (by have:=hok.b h;omega) (by have:=hok.b h;omega))) (fun h=>RZ (JR hE _ _ (hok.c h).1 (by have:=hok.c h;omega) (by have:=hok.c h;omega))) hE.last
end Go.Proofs.YtiaebjpcgjkhoaaGreatDoor
namespace Go.Proofs.YtiaebjpcgjkhoaaGreatDoor
open Go.RowKit
def H7 (t:D.Type) (v:Int):Int:=DS t.Bits t.Signed v
def setG (m:D.Model) (s:D.State) (k v:Int):D.State:={ s with Globals:=s.Globals.set k.toNat (H7 (m.Globals.getD k.toNat default) v) }
def Acz (m:D.Model) (p:D.Process) (k v:Int):D.Process:={ p with Frame:=p.Frame.set k.toNat (H7 ((AK m p.Type_).Frame.getD k.toNat default) v) }
def setO (m:D.Model) (s:D.State) (who k v:Int):D.State:={ s with Procs:=s.Procs.set who.toNat (Acz m (s.Procs.getD who.toNat default) k v) }
def Nl (m:D.Model) (s:D.State) (who k v:Int):D.State:=bif decide (who<0) then setG m s k v else setO m s who k v
def AV (e:D.Env) (x v:Int):D.State × Int :=
 bif decide (CA e x≠0) then (default,CA e x)
 else bif decide ((BH e (EO e) (Ar e.M x)).2.2≠0) then (default,(BH e (EO e) (Ar e.M x)).2.2)
 else (Nl e.M e.S (BH e (EO e) (Ar e.M x)).1 (BH e (EO e) (Ar e.M x)).2.1 v,0)
theorem E3 {α:Type} {l:List α} {i:Nat} {a x:α} (h:x∈l.set i a):x∈l∨x=a:=List.mem_or_eq_of_mem_set h
theorem Fit.setG {s:D.State} (h:Fit s) (m:D.Model) (k v:Int):Fit (setG m s k v):=⟨by show (List.set _ _ _).length<=_;rw [List.length_set];exact h.g,h.c,h.q,h.p,h.f⟩
theorem Fit.setO {s:D.State} (h:Fit s) (m:D.Model) (who k v:Int) (hw:who.toNat<s.Procs.length):Fit (setO m s who k v):=by
 refine ⟨h.g,h.c,h.q,by show (List.set _ _ _).length<=_;rw [List.length_set];exact h.p,fun p hp=>?_⟩
 rcases E3 hp with hp | rfl
 ·exact h.f p hp
 ·show (List.set _ _ _).length<=_
  rw [List.length_set]
  exact h.f _ (Au (d:=default) hw)
theorem Nf : Fit (default:D.State):=⟨by decide,by decide,fun c hc=>(by cases hc),by decide,fun p hp=>(by cases hp)⟩
section
variable {e : D.Env} {x:Int}
theorem AdB (hE:B3 e) (h0:0<=x) (h1:x<e.M.Exprs.length):U8 e.M x (Ar e.M x):=by
 have hxn:((x.toNat:Nat):Int)=x:=by omega
 exact YD (by have:=hE.expr x.toNat (by omega);rwa [hxn] at this)
theorem JD (hE:B3 e) (h0:0<=x) (h1:x<e.M.Exprs.length) {ev:Evl} (h:(BH e ev (Ar e.M x)).2.2=0):PM e (BH e ev (Ar e.M x)).1 (BH e ev (Ar e.M x)).2.1 :=
 RN hE (fun ho=>Kn ((AdB hE h0 h1).var ho)) h
theorem VY (hw:Ay e.M) (v:Int):Fit (AV e x v).1:=by
 unfold AV
 cases c:decide (CA e x≠0) with
 | true=>exact Nf
 | false =>
  obtain ⟨hE,h0,h1⟩:=H8 (x:=x) hw (by simpa using c)
  rw [cond_false]
  cases c2:decide ((BH e (EO e) (Ar e.M x)).2.2≠0) with
  | true=>exact Nf
  | false =>
   rw [cond_false]
   have hs:=JD hE h0 h1 (ev:=EO e) (by simpa using c2)
   show Fit (Nl _ _ _ _ _)
   unfold Nl
   cases c3:decide ((BH e (EO e) (Ar e.M x)).1<0) with
   | true=>exact hE.fit.setG _ _ _
   | false =>
    have hn:0<=(BH e (EO e) (Ar e.M x)).1:=by have:=of_decide_eq_false c3;omega
    exact hE.fit.setO _ _ _ _ (by have:=hs.own hn;omega)
end
end Go.Proofs.YtiaebjpcgjkhoaaGreatDoor
namespace Go.Proofs.YtiaebjpcgjkhoaaGreatDoor
open Go.RowKit
abbrev P0 : AR:=⟨fun _=>False,fun _=>False⟩
theorem V.keep {w w':World} {x:VV} {v:Value} (h:V w P0 none x v) (hb:Below w.heap.size w w'):V w' P0 none x v :=
 h.mono hb.size (fun k hk _=>⟨hb.block k hk,fun h=>h⟩) (fun k hk _=>⟨hb.block k hk,fun h=>h⟩) trivial
theorem Ai.at {P:Program} {f:FuncId} {xs:List VV} {r:VV} (h:Ai P f [] xs [] r) {w0 w:World} {vs:Array Value} (hL:Cq w0) (hB:∀ k,k∈Fy->k<w0.heap.size) (hb:Below w0.heap.size w0 w) (hs:Dj w P0 none xs vs) :
  Calls P f vs w fun e w'=>∃ v,e=.returned v/\Below w.heap.size w w'/\V w' P0 none r v :=
 h.start (hL.congr fun k hk=>hb.block k (hB k hk)) (fun k hk=>Nat.lt_of_lt_of_le (hB k hk) hb.size) hs
theorem OP {w:World} {E:AR} {x y:VV} {u v:Value} (h1:V w E none x u) (h2:V w E none y v):Dj w E none [x,y] #[u,v]:=by
 refine ⟨rfl,fun j z hz=>?_⟩
 match j,hz with
 | 0,hz=>simp only [List.getElem?_cons_zero,Option.some.injEq] at hz;subst hz;exact h1
 | 1,hz=>simp only [List.getElem?_cons_succ,List.getElem?_cons_zero,Option.some.injEq] at hz;subst hz;exact h2
 | j+2,hz=>simp at hz
theorem Ot {w:World} {E:AR} {m:Option Phi} {a b c:Int} {v:Value} (h:V w E m (Lb (a,b,c)) v):v=.tuple #[.int .i64 a,.int .i64 b,.int .i64 c]:=by
 cases h with
 | @tup _ _ _ vs h1 h2 =>
  obtain ⟨l⟩:=vs
  match l,h1,h2 with
  | [u0,u1,u2],_,h2 =>
   have e0:u0=.int .i64 a:=(h2 0 _ rfl).sc_inv
   have e1:u1=.int .i64 b:=(h2 1 _ rfl).sc_inv
   have e2:u2=.int .i64 c:=(h2 2 _ rfl).sc_inv
   rw [e0,e1,e2]
theorem Ags {l:List Value} (h:l.length=16):∃ a0 a1 a2 a3 a4 a5 a6 a7 a8 a9 a10 a11 a12 a13 a14 a15,l=[a0,a1,a2,a3,a4,a5,a6,a7,a8,a9,a10,a11,a12,a13,a14,a15]:=by
 match l,h with
 | [a0,a1,a2,a3,a4,a5,a6,a7,a8,a9,a10,a11,a12,a13,a14,a15],_=>exact ⟨_,_,_,_,_,_,_,_,_,_,_,_,_,_,_,_,rfl⟩
def AtT (w:World) (ts:List D.Type) (v:Value):Prop :=
 AtL w ts.length (fun b off i=>w.cell? ⟨b,off+i*2,none⟩=some (.int .i64 (ts.getD i default).Bits)/\w.cell? ⟨b,off+i*2+1,none⟩=some (.bool (ts.getD i default).Signed)) v
def AtF (w:World) (ps:List D.Proc) (v:Value):Prop :=
 AtL w ps.length (fun b off i=>∃ u,w.cell? ⟨b,off+i*10+2,none⟩=some u/\AtT w (ps.getD i default).Frame u) v
section
variable {w w':World} {E:AR} {m:Option Phi} {v:Value} {fz:Bool}
theorem Ahp {ts:List D.Type} (h:V w E m (AE fz ts) v):AtT w ts v:=by
 obtain ⟨ao,cap,rfl,h1,h2,h3⟩:=V.sl_inv h
 refine ⟨ao,cap,rfl,h1,h2,fun hp=>?_⟩
 obtain ⟨b,off,rfl,hb,_,_,u,hc,hv⟩:=h3 hp
 refine ⟨b,off,rfl,hb,fun i hi=>⟨?_,?_⟩⟩
 ·have c1:=hc i 0 _ hi rfl
  have c2:=(hv i 0 _ hi rfl).sc_inv
  rw [c2] at c1
  simpa using c1
 ·have c1:=hc i 1 _ hi rfl
  have c2:=(hv i 1 _ hi rfl).sc_inv
  rw [c2] at c1
  simpa using c1
theorem Ahz {ps:List D.Proc} (h:V w E m (Cw fz ps) v):AtF w ps v:=by
 obtain ⟨ao,cap,rfl,h1,h2,h3⟩:=V.sl_inv h
 refine ⟨ao,cap,rfl,h1,h2,fun hp=>?_⟩
 obtain ⟨b,off,rfl,hb,_,_,u,hc,hv⟩:=h3 hp
 exact ⟨b,off,rfl,hb,fun i hi=>⟨u i 2,hc i 2 _ hi rfl,Ahp (hv i 2 _ hi rfl)⟩⟩
theorem AtT.below {ts:List D.Type} (h:AtT w ts v) (hb:Below w.heap.size w w'):AtT w' ts v :=
 AtL.map h hb.size fun b off i hl _ hc=>⟨by rw [hb.cell (p:=⟨b,off+i*2,none⟩) hl];exact hc.1,by rw [hb.cell (p:=⟨b,off+i*2+1,none⟩) hl];exact hc.2⟩
theorem AtF.below {ps:List D.Proc} (h:AtF w ps v) (hb:Below w.heap.size w w'):AtF w' ps v :=
 AtL.map h hb.size fun b off i hl _ ⟨u,h1,h2⟩=>⟨u,by rw [hb.cell (p:=⟨b,off+i*10+2,none⟩) hl];exact h1,h2.below hb⟩
theorem AtQ.below {q:List (List Int)} (h:AtQ w q v) (hb:Below w.heap.size w w'):AtQ w' q v :=
 AtL.map h hb.size fun b off i hl _ ⟨u,h1,h2⟩=>⟨u,by rw [hb.cell (p:=⟨b,off+i,none⟩) hl];exact h1,h2.below hb⟩
theorem AtC.below {cs:List D.Chan} (h:AtC w cs v) (hb:Below w.heap.size w w'):AtC w' cs v :=
 AtL.map h hb.size fun b off i hl _ ⟨u,h0,h1,h2⟩=>⟨u,by rw [hb.cell (p:=⟨b,off+i*2,none⟩) hl];exact h0,by rw [hb.cell (p:=⟨b,off+i*2+1,none⟩) hl];exact h1,h2.below hb⟩
theorem AtP.below {ps:List D.Process} (h:AtP w ps v) (hb:Below w.heap.size w w'):AtP w' ps v :=
 AtL.map h hb.size fun b off i hl _ ⟨u,h0,h1,h2,h3,h4⟩=>⟨u,by rw [hb.cell (p:=⟨b,off+i*4,none⟩) hl];exact h0,by rw [hb.cell (p:=⟨b,off+i*4+1,none⟩) hl];exact h1,
  by rw [hb.cell (p:=⟨b,off+i*4+2,none⟩) hl];exact h2,by rw [hb.cell (p:=⟨b,off+i*4+3,none⟩) hl];exact h3,h4.below hb⟩
end
structure PN (w:World) (e:D.Env) (c0 c1 c2 c3 c4 c6 c7 c8 c9 c15:Value):Prop where
 t:AtT w e.M.Globals c0
 f:AtF w e.M.Procs c4
 g:AtI w e.S.Globals c7
 c:AtC w e.S.Chans c8
 p:AtP w e.S.Procs c9
abbrev KH (e:D.Env) (c0 c1 c2 c3 c4 c6 c7 c8 c9 c15:Value):Array Value :=
 #[c0,c1,c2,c3,c4,.int .i64 e.M.Claim,c6,c7,c8,c9,.int .i64 e.S.Last,.int .i64 e.S.Alone,.int .i64 e.S.Claim,.int .i64 e.Pid,.bool e.Timeout,c15]
theorem Ae8 {w:World} {E:AR} {m:Option Phi} {e:D.Env} {v:Value} (h:V w E m (.agg (Af e)) v) :
  ∃ c0 c1 c2 c3 c4 c6 c7 c8 c9 c15,v=.agg (KH e c0 c1 c2 c3 c4 c6 c7 c8 c9 c15)/\PN w e c0 c1 c2 c3 c4 c6 c7 c8 c9 c15:=by
 obtain ⟨vs,rfl,h1,h2⟩:=h.agg_inv
 obtain ⟨l⟩:=vs
 obtain ⟨a0,a1,a2,a3,a4,a5,a6,a7,a8,a9,a10,a11,a12,a13,a14,a15,rfl⟩:=Ags (l:=l) h1
 have e5:a5=.int .i64 e.M.Claim:=(h2 5 _ rfl).sc_inv
 have e10:a10=.int .i64 e.S.Last:=(h2 10 _ rfl).sc_inv
 have e11:a11=.int .i64 e.S.Alone:=(h2 11 _ rfl).sc_inv
 have e12:a12=.int .i64 e.S.Claim:=(h2 12 _ rfl).sc_inv
 have e13:a13=.int .i64 e.Pid:=(h2 13 _ rfl).sc_inv
 have e14:a14=.bool e.Timeout:=(h2 14 _ rfl).sc_inv
 subst e5 e10 e11 e12 e13 e14
 exact ⟨_,_,_,_,_,_,_,_,_,_,rfl,Ahp (h2 0 _ rfl),Ahz (h2 4 _ rfl),Afh (h2 7 _ rfl),AhA (h2 8 _ rfl),Ahy (h2 9 _ rfl)⟩
end Go.Proofs.YtiaebjpcgjkhoaaGreatDoor
namespace Go.Proofs.YtiaebjpcgjkhoaaGreatDoor
open Go.RowKit
theorem Xw {w:World} {b:Nat} {vs:Array Value} {t:TypeId} {cs:List VV} (hb:w.heap[b]?=some (.cells vs t (0,0))) (h:V w P0 none (.agg cs) (.agg vs)):V w P0 none (.tp cs) (.pointer (some ⟨b,0,none⟩)):=by
 obtain ⟨vs',e,h1,h2⟩:=h.agg_inv
 obtain rfl:vs=vs':=by simpa using e
 refine .tp (fun j=>vs.getD j undef) (BQ hb) (fun h=>h) (fun j x hx=>?_) fun j x hx=>h2 j x hx
 have hj:j<vs.size:=by rw [h1];exact (List.getElem?_eq_some_iff.1 hx).1
 rw [Nat.zero_add]
 exact Ah hb (by simp [Array.getD,hj])
theorem Aen {w:World} {E:AR} {m:Option Phi} {s:D.State} {g c p:Value} (h0:V w E m (Ad true s.Globals) g) (h1:V w E m (Bg true s.Chans) c) (h2:V w E m (AW true s.Procs) p) :
  V w E m (.agg (An s)) (.agg #[g,c,p,.int .i64 s.Last,.int .i64 s.Alone,.int .i64 s.Claim]):=by
 refine .agg rfl fun j x hx=>?_
 match j,hx with
 | 0,hx=>simp only [An,List.getElem?_cons_zero,Option.some.injEq] at hx;subst hx;exact h0
 | 1,hx=>simp only [An,List.getElem?_cons_succ,List.getElem?_cons_zero,Option.some.injEq] at hx;subst hx;exact h1
 | 2,hx=>simp only [An,List.getElem?_cons_succ,List.getElem?_cons_zero,Option.some.injEq] at hx;subst hx;exact h2
 | 3,hx=>simp only [An,List.getElem?_cons_succ,List.getElem?_cons_zero,Option.some.injEq] at hx;subst hx;exact .sc
 | 4,hx=>simp only [An,List.getElem?_cons_succ,List.getElem?_cons_zero,Option.some.injEq] at hx;subst hx;exact .sc
 | 5,hx=>simp only [An,List.getElem?_cons_succ,List.getElem?_cons_zero,Option.some.injEq] at hx;subst hx;exact .sc
 | j+6,hx=>simp [An] at hx
theorem Mn {w:World} {b:Nat} {u0 u1 u2 u3 u4 u5:Value} {t:TypeId} (h:w.heap[b]?=some (.cells #[u0,u1,u2,u3,u4,u5] t (0,0))) :
  w.cell? ⟨b,0,none⟩=some u0/\w.cell? ⟨b,1,none⟩=some u1/\w.cell? ⟨b,2,none⟩=some u2/\w.cell? ⟨b,3,none⟩=some u3/\w.cell? ⟨b,4,none⟩=some u4/\w.cell? ⟨b,5,none⟩=some u5 /\
  w.frozen? ⟨b,0,none⟩=false/\w.frozen? ⟨b,1,none⟩=false/\w.frozen? ⟨b,2,none⟩=false/\w.frozen? ⟨b,3,none⟩=false/\w.frozen? ⟨b,4,none⟩=false/\w.frozen? ⟨b,5,none⟩=false :=
 ⟨Ah h rfl,Ah h rfl,Ah h rfl,Ah h rfl,Ah h rfl,Ah h rfl,Aw h,Aw h,Aw h,Aw h,Aw h,Aw h⟩
theorem Hs (w:World) (A Z:Obj):((w.alloc A).alloc Z).heap[w.heap.size]?=some A/\((w.alloc A).alloc Z).heap[w.heap.size+1]?=some Z/\((w.alloc A).alloc Z).heap.size=w.heap.size+1+1/\Below w.heap.size w ((w.alloc A).alloc Z):=by
 refine ⟨?_,?_,by simp,((Below.refl _ w).alloc (Nat.le_refl _) _).alloc (by simp) _⟩
 ·rw [Below.heap_alloc _ _ _ (by simp)];exact heap_alloc_new w A
 ·have:=heap_alloc_new (w.alloc A) Z;simpa using this
def D1 (w:World) (n0:Nat) (s:D.State) (vs:Array Value):Prop :=
 ∃ vg vc vp qs fs,vs=#[vg,vc,vp,.int .i64 s.Last,.int .i64 s.Alone,.int .i64 s.Claim]/\Im w n0 vg s.Globals/\Fp w n0 vc qs s.Chans/\D9 w n0 vp fs s.Procs
theorem D1.zero (w:World) (n0:Nat):D1 w n0 default #[.slice none 0 0,.slice none 0 0,.slice none 0 0,.int .i64 0,.int .i64 0,.int .i64 0] :=
 ⟨_,_,_,[],[],rfl,World.ownsRow_nil _ _ _ _,Fp.nil _ _,D9.nil _ _⟩
theorem D1.v {w:World} {n0:Nat} {s:D.State} {vs:Array Value} {E:AR} {m:Option Phi} (h:D1 w n0 s vs) (hE:∀ k,E.fz k->k<n0):V w E m (.agg (An s)) (.agg vs):=by
 obtain ⟨vg,vc,vp,qs,fs,rfl,h1,h2,h3⟩:=h
 exact Aen (IE h1 hE) (AfP h2 hE) (AfO h3 hE)
theorem D1.base {w:World} {n0 n1:Nat} {s:D.State} {vs:Array Value} (h:D1 w n0 s vs) (hb:n1<=n0):D1 w n1 s vs:=by
 obtain ⟨vg,vc,vp,qs,fs,rfl,h1,h2,h3⟩:=h
 exact ⟨vg,vc,vp,qs,fs,rfl,Cb h1 hb,⟨Cb h2.row hb,h2.len,fun i u c a b=>let ⟨vs,hq⟩:=h2.each i u c a b;⟨vs,hq.base hb⟩⟩,⟨Cb h3.row hb,h3.len,fun i u p a b=>Cb (h3.each i u p a b) hb,h3.apart⟩⟩
theorem D1.aside {w w':World} {b B:Nat} {s:D.State} {vs:Array Value} (h:D1 w B s vs) (hb:b<B) (hT:BI w w' (fun k=>k=b)):D1 w' B s vs:=by
 obtain ⟨vg,vc,vp,qs,fs,rfl,h1,h2,h3⟩:=h
 have hk:∀ k,B<=k->k<w.heap.size->w'.heap[k]?=w.heap[k]?:=fun k h0 h1=>hT.block k h1 fun e=>by have e:k=b:=e;omega
 exact ⟨vg,vc,vp,qs,fs,rfl,B6 (ts:=[DI]) h1 (B9.of hk) (by simp),h2.kept (ts:=[DH,Gj,DI]) (B9.of hk) (by simp) (by simp) (by simp),h3.kept (ts:=[DX,DI]) (B9.of hk) (by simp) (by simp)⟩
def KW (w:World) (e:D.Env) (x v:Int) (r:Ending) (w':World):Prop :=
 ∃ vs,r=.returned (.tuple #[.agg vs,.int .i64 (AV e x v).2])/\D1 w' w.heap.size (AV e x v).1 vs/\Below w.heap.size w w'
theorem OM {e:D.Env} {x:Int} (hw:Ay e.M) (h:CA e x=0):Ai Tryz.prog 80 [] [.tp (Af e),Aa x] [] (Lb (BH e (EO e) (Ar e.M x))):=by
 obtain ⟨hE,hx⟩:=H8 hw h
 exact Yb hE hx (AdB hE hx.1 hx.2) fun a h0 h1=>Qt hE hx.2 h0 h1
abbrev Ae9 : TypeId:=36
set_option maxRecDepth 100000 in
set_option maxHeartbeats 4000000 in
theorem ZG {w:World} {e:D.Env} {x v:Int} {c0 c1 c2 c3 c4 c6 c7 c8 c9 c15:Value} (hw:Ay e.M) (hs:A4 e.S) (hL:Cq w) (hB:∀ k,k∈Fy->k<w.heap.size)
  (hV:V w P0 none (.agg (Af e)) (.agg (KH e c0 c1 c2 c3 c4 c6 c7 c8 c9 c15))) (hbad:CA e x≠0) :
  Calls Tryz.prog 63 #[.agg (KH e c0 c1 c2 c3 c4 c6 c7 c8 c9 c15),.int .i64 x,.int .i64 v] w (KW w e x v):=by
 have HQ:Hid (AV e x v=(default,CA e x)):=by unfold Hid AV;rw [decide_eq_true hbad,cond_true]
 have HC:=Lib.hid (DT hw hs x)
 have hne:(CA e x==0)=false:=by simpa using hbad
 clear hbad
 unfold KH at hV ⊢
 go_enter Tryz.func63,Tryz.ntmps63
 obtain ⟨B0,B1,B2,BB⟩:=Hs w (.cells #[c0,c1,c2,c3,c4,.int .i64 e.M.Claim,c6,c7,c8,c9,.int .i64 e.S.Last,.int .i64 e.S.Alone,.int .i64 e.S.Claim,.int .i64 e.Pid,.bool e.Timeout,c15] Ae9 (0,0)) (.cells #[.slice none 0 0,.slice none 0 0,.slice none 0 0,.int .i64 0,.int .i64 0,.int .i64 0] BK (0,0))
 go_wp2_with (go_at_call 51;refine (HC.out.at hL hB BB (OP (hV.keep BB) .sc)).mono ?_;rintro r w1 ⟨u,rfl,hb1,hu⟩;obtain rfl:=hu.sc_inv;have Z1:=(hb1.block _ (by omega)).trans B1;obtain ⟨d0,d1,d2,d3,d4,d5,g0,g1,g2,g3,g4,g5⟩:=Mn Z1)
 have hres:=Mc Z1 (.slice none 0 0) (.slice none 0 0) (.slice none 0 0) (.int .i64 0) (.int .i64 0) (.int .i64 0)
 have hT:=GY (w:=w1) (b:=w.heap.size+1) (.slice none 0 0) (.slice none 0 0) (.slice none 0 0) (.int .i64 0) (.int .i64 0) (.int .i64 0)
 refine Dx rfl rfl hres Tryz.underlying33 rfl (by kernel_rfl) rfl ?_
 generalize (((((((w1.setCell ⟨w.heap.size+1,0,none⟩ (.slice none 0 0)).setCell ⟨w.heap.size+1,1,none⟩ (.slice none 0 0)).setCell ⟨w.heap.size+1,2,none⟩ (.slice none 0 0)).setCell ⟨w.heap.size+1,3,none⟩ (.int .i64 0)).setCell ⟨w.heap.size+1,4,none⟩ (.int .i64 0)).setCell ⟨w.heap.size+1,5,none⟩ (.int .i64 0)))=wz at *
 have hBz:Below w.heap.size w w1:=BB.trans (hb1.mono (by omega))
 refine ⟨_,by rw [HQ.out];rfl,by rw [HQ.out];exact D1.zero _ _,hBz.trans (hT.below hBz.size fun j hj=>by have hj:j=w.heap.size+1:=hj;omega)⟩
set_option maxRecDepth 100000 in
set_option maxHeartbeats 4000000 in
theorem VT {w:World} {e:D.Env} {x v:Int} {c0 c1 c2 c3 c4 c6 c7 c8 c9 c15:Value} (hw:Ay e.M) (hs:A4 e.S) (hL:Cq w) (hB:∀ k,k∈Fy->k<w.heap.size)
  (hV:V w P0 none (.agg (Af e)) (.agg (KH e c0 c1 c2 c3 c4 c6 c7 c8 c9 c15))) (hgood:CA e x=0) (hbad:(BH e (EO e) (Ar e.M x)).2.2≠0) :
  Calls Tryz.prog 63 #[.agg (KH e c0 c1 c2 c3 c4 c6 c7 c8 c9 c15),.int .i64 x,.int .i64 v] w (KW w e x v):=by
 have HQ:Hid (AV e x v=(default,(BH e (EO e) (Ar e.M x)).2.2)):=by unfold Hid AV;rw [decide_eq_false (by omega),cond_false,decide_eq_true hbad,cond_true]
 have HC:=Lib.hid (DT hw hs x)
 have HS:=Lib.hid (OM hw hgood)
 generalize BH e (EO e) (Ar e.M x)=sv at HQ HS hbad
 obtain ⟨who,k,err⟩:=sv
 have hne:(err==0)=false:=by simpa using hbad
 change Hid (AV e x v=(default,err)) at HQ
 clear hbad
 unfold KH at hV ⊢
 rw [hgood] at HC
 go_enter Tryz.func63,Tryz.ntmps63
 obtain ⟨B0,B1,B2,BB⟩:=Hs w (.cells #[c0,c1,c2,c3,c4,.int .i64 e.M.Claim,c6,c7,c8,c9,.int .i64 e.S.Last,.int .i64 e.S.Alone,.int .i64 e.S.Claim,.int .i64 e.Pid,.bool e.Timeout,c15] Ae9 (0,0)) (.cells #[.slice none 0 0,.slice none 0 0,.slice none 0 0,.int .i64 0,.int .i64 0,.int .i64 0] BK (0,0))
 go_wp2_with (first
  | (go_at_call 51;refine (HC.out.at hL hB BB (OP (hV.keep BB) .sc)).mono ?_;rintro r w1 ⟨u,rfl,hb1,hu⟩;obtain rfl:=hu.sc_inv;have Z0:=(hb1.block _ (by omega)).trans B0;have Z1:=(hb1.block _ (by omega)).trans B1;have BW:=BB.trans (hb1.mono (by omega)))
  | (go_at_call 80;refine (HS.out.at hL hB BW (OP (Xw Z0 (hV.keep BW)) .sc)).mono ?_;rintro r w2 ⟨u,rfl,hb2,hu⟩;obtain rfl:=Ot hu;have Y1:=(hb2.block _ (BQ Z1)).trans Z1;obtain ⟨d0,d1,d2,d3,d4,d5,g0,g1,g2,g3,g4,g5⟩:=Mn Y1))
 have hres:=Mc Y1 (.slice none 0 0) (.slice none 0 0) (.slice none 0 0) (.int .i64 0) (.int .i64 0) (.int .i64 0)
 have hT:=GY (w:=w2) (b:=w.heap.size+1) (.slice none 0 0) (.slice none 0 0) (.slice none 0 0) (.int .i64 0) (.int .i64 0) (.int .i64 0)
 refine Dx rfl rfl hres Tryz.underlying33 rfl (by kernel_rfl) rfl ?_
 generalize (((((((w2.setCell ⟨w.heap.size+1,0,none⟩ (.slice none 0 0)).setCell ⟨w.heap.size+1,1,none⟩ (.slice none 0 0)).setCell ⟨w.heap.size+1,2,none⟩ (.slice none 0 0)).setCell ⟨w.heap.size+1,3,none⟩ (.int .i64 0)).setCell ⟨w.heap.size+1,4,none⟩ (.int .i64 0)).setCell ⟨w.heap.size+1,5,none⟩ (.int .i64 0)))=wz at *
 have hBz:Below w.heap.size w w2:=BW.trans (hb2.mono BW.size)
 refine ⟨_,by rw [HQ.out];rfl,by rw [HQ.out];exact D1.zero _ _,hBz.trans (hT.below hBz.size fun j hj=>by have hj:j=w.heap.size+1:=hj;omega)⟩
end Go.Proofs.YtiaebjpcgjkhoaaGreatDoor
