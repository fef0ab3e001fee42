/-
  Texts, joined: QtW2, CsV, WhW2, PrB, PrW, PrX, Fm2, WhPr, WhW3, SpI, QtW3, QtW4, QtW5, QtW6, QtW7, SpJ, QsK, QsL, QsM, SpV4, QsV5, QtW8, QtW9, PoX, PaO, PaG, PaI, PaL, QtP, QtK, QtV, EpD, EpH, EpW, EbW, EpX, QtPr, PoV, QsP, PoW, PoY, PoZ, PoM, PoU, LawKit.
-/
import Derived.Test.YtlhajmkjfcbhnaaGreatPkD
import Derived.Laws.IdiomStrings
import Derived.KernelRfl
import Derived.Lib.AppendStr
import Derived.Deep.RegionHeld3
import Derived.Test.YtlhajmkjfcbhnaaGreatRows
import Derived.WalkKit
import Derived.ProofKit
import Derived.OpenShut
namespace Go.Proofs.YtlhajmkjfcbhnaaGreat
open Go.RowKit
theorem AcG (t:D.Type):Ch.typeP t=Eb t:=by
 unfold Ch.typeP Eb
 rw[Bool.eq_iff_iff]
 simp only[Bool.and_eq_true,Bool.or_eq_true]
 grind
theorem WU {x y:List Int}(hx:x.length<=1048576)(_:y.length<=1048576):Al Tryz.prog 156 [] [Ad true x,Ad true y] [] (Ac (Ch.lessP x y)):=by
 generalize hb:Ch.lessP x y=b
 refine Ag Ai Aj Tryz.func156 (by kernel_rfl) rfl (Aa1 b x y) ?_
 refine AA Ai Aj (fun g st=>∃ k:Nat,k<=x.length/\k<=y.length/\(∀ j,j<k->x.getD j 0=y.getD j 0)/\g=x.length - k/\st=IU x y k) (by kernel_rfl) (by kernel_rfl) ⟨_,Up.of ⟨0,Nat.zero_le _,Nat.zero_le _,fun j hj=>absurd hj (Nat.not_lt_zero j),rfl,rfl⟩⟩ ?_
 rintro g st ⟨k,hk,hk2,hs,rfl,rfl⟩
 have hto:(k:Int).toNat=k:=by omega
 refine AY.raw (WV b x y k _) ⟨fun h=>?_,fun h=>?_⟩
 ·rw[BD,Bool.and_eq_true]at h
  have h1:k<x.length:=by have:=AG h.1;omega
  have h2:k<y.length:=by have:=AG h.2;omega
  rw[hto]
  refine⟨⟨by omega,by omega⟩,⟨by omega,by omega⟩,fun hn=>⟨⟨by omega,by omega⟩,⟨by omega,by omega⟩,trivial,VV.le_eq ?_⟩,fun he=>⟨x.length - (k+1),by omega,Up.of ⟨k+1,h1,h2,B0 hs (by simpa using he),rfl,?_⟩⟩⟩
  ·rw[← hb,Ch.lessP_differ k x y h1 h2 hs (by simpa using hn)]
  ·rw[Ak (by omega)]
 ·have h3:k=x.length∨k=y.length:=by
   rw[BD,Bool.and_eq_false_iff]at h
   rcases h with h | h
   ·have:=AI h;omega
   ·have:=AI h;omega
  refine⟨trivial,VV.le_eq ?_⟩
  rw[← hb,Ch.lessP_end k x y hk hk2 h3 hs,show decide ((x.length:Int)<(y.length:Int))=decide (x.length<y.length) from decide_eq_decide.2 (by omega)]
def Ms (so:Bool)(x:List Int):Bool->List (List Int)->List (List Int)
 | dn,[]=>bif dn then[] else[x]
 | dn,y::r=>bif so&&(!dn&&Ch.lessP x y) then x::y::Ms so x true r else y::Ms so x dn r
theorem AbL {so:Bool}{x y:List Int}{dn:Bool}{r:List (List Int)}:Ms so x dn (y::r)=bif so&&(!dn&&Ch.lessP x y) then x::y::Ms so x true r else y::Ms so x dn r:=rfl
theorem Q5 {so:Bool}{x:List Int}:∀ q,Ms so x true q=q
 | []=>rfl
 | y::r=>by
  unfold Ms
  rw[Q5 r]
  cases so<;>rfl
theorem UG {so:Bool}{x:List Int}:∀ q,Ms so x false q=Ch.putAt q (if so then Ch.firstP x q else q.length) x
 | []=>by cases so<;>rfl
 | y::r=>by
  have ih:=UG (so:=so) (x:=x) r
  unfold Ms
  rw[Q5,ih]
  cases so with
  | false=>simp[Ch.putAt]
  | true =>
   cases c:Ch.lessP x y with
   | true=>simp[Ch.putAt,Ch.firstP,c]
   | false=>simp[Ch.putAt,Ch.firstP,c]
theorem HZ {out:List (List Int)}{y:List Int}{i:Nat}(hi:i<out.length+1):(bif i.blt out.length then[Ad true (out.getD i [])] else List.take 1 (List.drop ((i - out.length)*1) [Ad true y]))=Ed (out++[y]) i :=
 Bz (l:=out) (r:=[y]) (f:=fun w=>[Ad true w]) (d:=[]) (F:=fun i=>[Ad true (out.getD i [])]) (G:=fun i=>List.take 1 (List.drop (i*1) [Ad true y])) (fun i hi=>rfl) (fun i hi=>by
  obtain rfl:i=0:=by simpa using hi
  rfl) (by simpa using hi)
theorem AaQ {s:D.Shape}{c:D.Chan}{m:List Int}{so:Bool}(hl:m.length=s.Fields.length)(ht:∀ t∈s.Fields,Eb t=true)(hm:m.length<=1024)(hq:c.Queue.length<=1024)(hqm:∀ y∈c.Queue,y.length<=1048576) :
  Al Tryz.prog 127 [] [.agg (BZ s),.agg (Aw c),Ad true m,Ac so] []
   (.tup [.agg (Aw ⟨Ch.putSh s.Room s.Fields c.Queue m c.Shape,Ch.putQ s.Room s.Fields c.Queue m so⟩),Aa (Ch.putE s.Room s.Fields c.Queue m)]):=by
 have hall:s.Fields.all Ch.typeP=true:=List.all_eq_true.2 fun t h=>by rw[AcG];exact ht t h
 have hE:Ch.putE s.Room s.Fields c.Queue m=if s.Room<=c.Queue.length then 45 else 0:=by
  unfold Ch.putE
  rw[if_neg (fun h=>h hl),if_neg (by rw[hall];simp)]
 generalize hr:((⟨Ch.putSh s.Room s.Fields c.Queue m c.Shape,Ch.putQ s.Room s.Fields c.Queue m so⟩,Ch.putE s.Room s.Fields c.Queue m):D.Chan × Int)=r
 show Al _ _ _ _ _ (.tup [.agg (Aw ((⟨Ch.putSh s.Room s.Fields c.Queue m c.Shape,Ch.putQ s.Room s.Fields c.Queue m so⟩,Ch.putE s.Room s.Fields c.Queue m):D.Chan × Int).1),Aa ((⟨Ch.putSh s.Room s.Fields c.Queue m c.Shape,Ch.putQ s.Room s.Fields c.Queue m so⟩,Ch.putE s.Room s.Fields c.Queue m):D.Chan × Int).2])
 rw[hr]
 have hX:(Ch.fitM s.Fields m).length=m.length:=Ch.fitM_len hl
 refine Ag Ai Aj Tryz.func127 (by kernel_rfl) rfl (AdC r s c m so) ⟨fun h=>by simp[hl]at h,fun _=>?_⟩
 refine Aq.own 5 10 1 (AJ []) rfl ?_
 change Aq _ _ (YH s c m so [] ((0:Nat):Int))
 refine AA Ai Aj (fun g st=>∃ k:Nat,k<=m.length/\g=m.length - k/\st=YH s c m so ((Ch.fitM s.Fields m).take k) k) (by kernel_rfl) (by kernel_rfl) ⟨_,Up.of ⟨0,Nat.zero_le _,rfl,rfl⟩⟩ ?_
 rintro g st ⟨k,hk,rfl,rfl⟩
 have hto:(k:Int).toNat=k:=by omega
 have hlk:((Ch.fitM s.Fields m).take k).length=k:=by rw[List.length_take];omega
 refine AY.raw (AaS r s c m so ((Ch.fitM s.Fields m).take k) k _) ⟨fun hlt=>?_,fun hge=>?_⟩
 ·have hlt':k<m.length:=by have:=AG hlt;omega
  have hkf:k<s.Fields.length:=by omega
  have hat:(Ch.fitM s.Fields m).getD k 0=Ih (s.Fields.getD k default).Bits (s.Fields.getD k default).Signed (m.getD k 0):=by
   have e1:s.Fields[k]?=some (s.Fields.getD k default):=by simp[List.getD,hkf]
   have e2:m[k]?=some (m.getD k 0):=by simp[List.getD,hlt']
   rw[List.getD,Ch.fitM,List.getElem?_zipWith,e1,e2]
   rfl
  have hpush:(Ch.fitM s.Fields m).take (k+1)=(Ch.fitM s.Fields m).take k++[Ih (s.Fields.getD k default).Bits (s.Fields.getD k default).Signed (m.getD k 0)]:=by rw[CU (d:=0) (by omega),hat]
  rw[hto,hlk]
  refine⟨⟨by omega,by omega⟩,true,by rw[← ht _ (An (d:=default) hkf)];exact Me _,fun h=>by simp at h,fun _=>⟨⟨by omega,by omega⟩,⟨by omega,by omega⟩,_,F7 _ _,by omega,m.length - (k+1),by omega,?_⟩⟩
  rw[Ak (by omega)]
  refine Up.mk (hs':=[.box (BZ s),.box (Aw c),.box SB,.arr true 0 (k+1) 1 (AJ ((Ch.fitM s.Fields m).take (k+1)))]) (AU _) ⟨Ob.le_refl _,Ob.le_refl _,Ob.le_refl _,Ob.le_arr fun i hi=>AZ ?_,trivial⟩ ⟨k+1,hlt',rfl,?_⟩
  ·rw[hpush]
   have:=Bz (l:=(Ch.fitM s.Fields m).take k) (r:=[Ih (s.Fields.getD k default).Bits (s.Fields.getD k default).Signed (m.getD k 0)]) (f:=fun w=>[Aa w]) (d:=0) (F:=fun i=>[Aa (((Ch.fitM s.Fields m).take k).getD i 0)]) (G:=fun i=>List.take 1 (List.drop (i*1) [Aa (Ih (s.Fields.getD k default).Bits (s.Fields.getD k default).Signed (m.getD k 0))])) (fun i hi=>rfl) (fun i hi=>by
    obtain rfl:i=0:=by simpa using hi
    rfl) (i:=i) (by rw[List.length_append,hlk];simpa using hi)
   rw[hlk]at this
   exact this
  ·unfold YH
   rw[show((Ch.fitM s.Fields m).take (k+1)).length=k+1 by rw[List.length_take];omega]
 ·have hge':m.length<=k:=by have:=AI hge;omega
  rw[List.take_of_length_le (by omega)]
  generalize hx:Ch.fitM s.Fields m=x at hX hr ⊢
  have hr:r=(⟨Ch.putSh s.Room s.Fields c.Queue m c.Shape,Ch.putQ s.Room s.Fields c.Queue m so⟩,Ch.putE s.Room s.Fields c.Queue m):=hr.symm
  refine⟨fun hf=>?_,fun hf=>?_⟩
  ·have hf:s.Room<=c.Queue.length:=by simpa using hf
   rw[hr]
   unfold Ch.putSh Ch.putQ
   rw[hE,if_pos hf]
   exact⟨trivial,VV.le_tup ⟨VV.le_agg ⟨VV.le_refl _,VV.le_nil,trivial⟩,VV.le_refl _,trivial⟩⟩
  ·have hf:¬ s.Room<=c.Queue.length:=by simpa using hf
   have hr2:r=(⟨c.Shape,Ms so x false c.Queue⟩,0):=by
    rw[hr]
    unfold Ch.putSh Ch.putQ Ch.putX
    rw[hE,if_neg hf,if_pos rfl,if_pos rfl,hx,UG]
   refine Aq.cv (Cv.pub (k:=3) (t:=10) (id:=2) rfl rfl) ?_
   refine Aq.cv (Cv.ownBox 3 1 1 (Ed []) rfl rfl) ?_
   refine Aq.forget [3,5,8,10,13,14,15] rfl ?_
   change Aq _ _ (Tg c so x [] false ((0:Nat):Int))
   refine AA Ai Aj (fun g st=>∃ (k:Nat) (out:List (List Int)) (dn:Bool),k<=c.Queue.length/\(dn=false->out.length<=k)/\out.length<=k+1/\out++Ms so x dn (c.Queue.drop k)=Ms so x false c.Queue/\g=c.Queue.length - k/\st=Tg c so x out dn k) (by kernel_rfl) (by kernel_rfl) ⟨_,Up.of ⟨0,[],false,Nat.zero_le _,fun _=>Nat.zero_le _,Nat.zero_le _,rfl,rfl,rfl⟩⟩ ?_
   rintro g st ⟨k,out,dn,hk,hd0,ho,hi,rfl,rfl⟩
   have hto:(k:Int).toNat=k:=by omega
   refine AY.raw (AaR r c so x out dn k _) ⟨fun hlt=>?_,fun hge=>?_⟩
   ·have hlt':k<c.Queue.length:=by have:=AG hlt;omega
    rw[hto]
    rw[Bb (d:=[]) hlt']at hi
    have hy:=hqm _ (An (d:=[]) hlt')
    generalize c.Queue.getD k []=y at hi hy ⊢
    rw[AbL]at hi
    refine⟨⟨by omega,by omega⟩,Ch.lessP x y,WU (by omega) hy,fun hc=>?_,fun hc=>?_⟩
    ·rw[BD,BD,Bool.and_assoc]at hc
     rw[hc,cond_true]at hi
     have hdn:=hd0 (by simp only[Bool.and_eq_true,Bool.not_eq_true']at hc;exact hc.2.1)
     refine⟨by omega,⟨by omega,by omega⟩,by omega,c.Queue.length - (k+1),by omega,Up.mk (hs':=[.box (Aw c),.box SB,.box [Aa c.Shape,.ow 3 0 (out.length+1+1)],.arr true 0 (out.length+1+1) 1 (Ed (out++[x]++[y]))]) (AU _) ⟨Ob.le_refl _,Ob.le_refl _,Ob.le_refl _,Ob.le_arr fun i hi=>AZ ?_,trivial⟩ ⟨k+1,out++[x]++[y],true,hlt',fun h=>(by cases h),?_,?_,rfl,?_⟩⟩
     ·have h1:=HZ (out:=out++[x]) (y:=y) (i:=i) (by simpa using hi)
      rw[← h1,List.length_append,List.length_singleton]
      cases c0:i.blt (out.length+1) with
      | false=>rfl
      | true=>exact HZ (Nat.le_of_ble_eq_true c0)
     ·simp;omega
     ·rw[← hi];simp
     ·rw[Ak (by omega)]
      unfold Tg
      simp
    ·rw[BD,BD,Bool.and_assoc]at hc
     rw[hc,cond_false]at hi
     refine⟨⟨by omega,by omega⟩,by omega,c.Queue.length - (k+1),by omega,Up.mk (hs':=[.box (Aw c),.box SB,.box [Aa c.Shape,.ow 3 0 (out.length+1)],.arr true 0 (out.length+1) 1 (Ed (out++[y]))]) (AU _) ⟨Ob.le_refl _,Ob.le_refl _,Ob.le_refl _,Ob.le_arr fun i hi=>AZ (HZ hi),trivial⟩ ⟨k+1,out++[y],dn,hlt',fun h=>by have:=hd0 h;simp;omega,?_,?_,rfl,?_⟩⟩
     ·simp;omega
     ·rw[← hi];simp
     ·rw[Ak (by omega)]
      unfold Tg
      simp
   ·rw[List.drop_of_length_le (by have:=AI hge;omega)]at hi
    rw[hr2,← hi]
    unfold Ms
    refine⟨fun hd=>⟨by omega,trivial,VV.le_tup ⟨VV.le_agg ⟨VV.le_refl _,?_,trivial⟩,VV.le_refl _,trivial⟩⟩,fun hd=>⟨trivial,VV.le_eq ?_⟩⟩
    ·have hd:dn=false:=by simpa using hd
     subst hd
     rw[cond_false]
     show VV.le _ (.sl true (out++[x]).length 1 (Ed (out++[x])))
     rw[List.length_append,List.length_singleton]
     exact VV.le_sl (.inl rfl) fun i hi=>AZ (HZ hi)
    ·have hd:dn=true:=by simpa using hd
     subst hd
     rw[cond_true,List.append_nil]
     rfl
theorem Wr {c:D.Chan}{n:Int}(hq:c.Queue.length<=1024):Al Tryz.prog 128 [] [.agg (Aw c),Aa n] [] (.tup [.agg (Aw (Dy c n).1),Ad true (Dy c n).2.1,Aa (Dy c n).2.2]):=by
 have hE:Dy c n=bif decide (n<0)||decide ((c.Queue.length:Int)<=n) then(⟨0,[]⟩,[],46) else(⟨c.Shape,Ch.cutAt c.Queue n.toNat⟩,c.Queue.getD n.toNat [],0):=rfl
 generalize Dy c n=r at hE
 refine Ag Ai Aj Tryz.func128 (by kernel_rfl) rfl (AaG r c n) ⟨fun h=>?_,fun h=>?_⟩
 ·rw[Cn]at h
  have h:(decide (n<0)||decide ((c.Queue.length:Int)<=n))=true:=h
  rw[h,cond_true]at hE
  subst hE
  exact⟨trivial,VV.le_tup ⟨VV.le_agg ⟨VV.le_refl _,VV.le_nil,trivial⟩,VV.le_nil,VV.le_refl _,trivial⟩⟩
 ·rw[Cn]at h
  have h:(decide (n<0)||decide ((c.Queue.length:Int)<=n))=false:=h
  rw[h,cond_false]at hE
  subst hE
  simp only[Bool.or_eq_false_iff,decide_eq_false_iff_not]at h
  rw[AL (by omega) (by omega),show(n - 0).toNat=n.toNat by omega]
  have hlen:(Ch.cutAt c.Queue n.toNat).length=n.toNat+((c.Queue.length:Int) - (n+1)).toNat:=by
   rw[Ch.cutAt_len (by omega)];omega
  refine⟨⟨by omega,by omega,by omega⟩,by omega,fun _ _=>rfl,⟨by omega,by omega,by omega⟩,by omega,fun _ _=>rfl,⟨by omega,by omega⟩,trivial,VV.le_tup ⟨VV.le_agg ⟨VV.le_refl _,?_,trivial⟩,VV.le_refl _,VV.le_refl _,trivial⟩⟩
  show VV.le _ (.sl true (Ch.cutAt c.Queue n.toNat).length 1 (Ed (Ch.cutAt c.Queue n.toNat)))
  rw[hlen]
  refine VV.le_sl (.inl rfl) fun i hi=>AZ ?_
  have hcut:(Ch.cutAt c.Queue n.toNat).getD i []=if i<n.toNat then c.Queue.getD i [] else c.Queue.getD (i+1) []:=by
   unfold Ch.cutAt
   simp only[List.getD,List.getElem?_append,List.length_take,List.getElem?_take,List.getElem?_drop]
   have:min n.toNat c.Queue.length=n.toNat:=by omega
   rw[this]
   split
   ·rfl
   ·congr 2;omega
  show _=[Ad true ((Ch.cutAt c.Queue n.toNat).getD i [])]
  rw[hcut]
  cases c0:i.blt n.toNat with
  | true =>
   rw[if_pos (show i<n.toNat from Nat.le_of_ble_eq_true c0)]
   show[Ad true (c.Queue.getD (Int.toNat 0+i) [])]=_
   rw[show Int.toNat 0+i=i by simp]
  | false =>
   have:¬ i<n.toNat:=fun hh=>by rw[show i.blt n.toNat=true from Nat.ble_eq_true_of_le hh]at c0;cases c0
   rw[if_neg this]
   show[Ad true (c.Queue.getD ((n+1).toNat+(i - n.toNat)) [])]=_
   rw[show(n+1).toNat+(i - n.toNat)=i+1 by omega]
end Go.Proofs.YtlhajmkjfcbhnaaGreat
namespace Go.Proofs.YtlhajmkjfcbhnaaGreat
end Go.Proofs.YtlhajmkjfcbhnaaGreat
namespace Go.Proofs.YtlhajmkjfcbhnaaGreat
open Go.RowKit
section
variable {e : D.Env}
theorem Mq {l:D.Loc}{esc:Int}(_:-1<=esc)(h2:esc<l.Esc.length):CH l esc∈Bw l:=by
 unfold CH
 cases c:decide (esc<0) with
 | true=>exact List.mem_cons_self
 | false =>
  have:0<=esc:=by have:=of_decide_eq_false c;omega
  exact List.mem_cons_of_mem _ (An (by omega))
structure Rr (e:D.Env) (s:D.Stmt) (w:Wy):Prop where
 hB:B5 (Bq e w.With)
 b1:-1<=w.WithEsc
 b2:w.WithEsc<(Br (Bq e w.With)).Esc.length
 b3:0<=w.WithWay
 b4:w.WithWay<(CH (Br (Bq e w.With)) w.WithEsc).length
 kB:(DZ e w).S.Kind=6
 len:s.Args.length=(DZ e w).S.Args.length
theorem Rr.st {s:D.Stmt}{w:Wy}(m:Rr e s w):C4 e.M (DZ e w).S:=(m.hB.ws (Mq m.b1 m.b2)).st _ (An (by have:=m.b3;have:=m.b4;omega))
end
end Go.Proofs.YtlhajmkjfcbhnaaGreat
namespace Go.Proofs.YtlhajmkjfcbhnaaGreat
end Go.Proofs.YtlhajmkjfcbhnaaGreat
namespace Go.Proofs.YtlhajmkjfcbhnaaGreat
open Go.RowKit
def Aiv (w:World)(a:Option Addr)(l:List Int):Prop:=0<l.length->∃ bb off,a=some ⟨bb,off,none⟩/\bb<w.heap.size/\∀ i,i<l.length->w.cell? ⟨bb,off+i,none⟩=some (.int .i64 (l.getD i 0))
theorem JR {b:Nat}:∀ {g u:Nat},(Np b g u).length<=g
 | 0,_=>Nat.le_refl _
 | g+1,u=>by
  unfold Np
  split
  ·simp
  ·have:=JR (b:=b) (g:=g) (u:=u / b)
   simp;omega
theorem Qp {c:UInt8}{n:Int}(hn:I64 n):(mk (CO c n)).size<=64:=by
 rw[B7]
 unfold CO
 split
 ·exact JR
 split
 ·exact JR
 split
 ·exact JR
 split
 ·simp
 ·have:=Lib.itoa_length_le n hn.1 hn.2;omega
theorem Xz {c:UInt8}(h:c.toNat≠37):(c==37)=false:=by
 rw[beq_eq_false_iff_ne];rintro rfl;exact h rfl
theorem Ahw {c:UInt8}(h:c.toNat=37):c=37:=UInt8.toNat_inj.1 h
theorem Aes {c:UInt8}{L:By}{l:List Int}(h:c.toNat≠37∨L=[]):B6 (c::L) l=c::B6 L l:=by
 cases L with
 | nil=>rfl
 | cons d r =>
  rcases h with h | h
  ·simp only[B6,Xz h,Bool.not_false,cond_true]
  ·cases h
theorem Ai2 {r:By}{l:List Int}:B6 (37::37::r) l=37::B6 r l:=rfl
theorem AgD {d:UInt8}{r:By}{l:List Int}(h1:d.toNat≠37)(h2:GA d=true):B6 (37::d::r) l=(l.take 1).flatMap (CO d)++B6 r l.tail:=by
 have e:B6 (37::d::r) l=bif d==37 then 37::B6 r l else bif GA d then(match l with | []=>B6 r [] | n::l=>CO d n++B6 r l) else 37::d::B6 r l:=rfl
 rw[e,Xz h1,h2,cond_false,cond_true]
 cases l with
 | nil=>rfl
 | cons n l=>simp
theorem Aet {d:UInt8}{r:By}{l:List Int}(h1:d.toNat≠37)(h2:GA d=false):B6 (37::d::r) l=37::d::B6 r l:=by
 have e:B6 (37::d::r) l=bif d==37 then 37::B6 r l else bif GA d then(match l with | []=>B6 r [] | n::l=>CO d n++B6 r l) else 37::d::B6 r l:=rfl
 rw[e,Xz h1,h2];rfl
theorem Ow {c:UInt8}(h:GA c=true):c.toNat=100∨c.toNat=105∨c.toNat=101∨c.toNat=117∨c.toNat=120∨c.toNat=111∨c.toNat=99:=by
 simp only[GA,Bool.or_eq_true,beq_iff_eq]at h
 rcases h with rfl | rfl | rfl | rfl | rfl | rfl | rfl<;>simp
theorem ZW {c:UInt8}(h:GA c=false):c.toNat≠100/\c.toNat≠105/\c.toNat≠101/\c.toNat≠117/\c.toNat≠120/\c.toNat≠111/\c.toNat≠99:=by
 simp only[GA,Bool.or_eq_false_iff,beq_eq_false_iff_ne]at h
 obtain⟨h1,h2,h3,h4,h5,h6,h7⟩:=h
 refine⟨fun e=>h1 ?_,fun e=>h2 ?_,fun e=>h3 ?_,fun e=>h4 ?_,fun e=>h5 ?_,fun e=>h6 ?_,fun e=>h7 ?_⟩<;>exact UInt8.toNat_inj.1 e
theorem Zl {t:ByteArray}{k:Nat}(h:k<t.size):(bs t).drop k=t[k]'h::(bs t).drop (k+1):=by
 have hl:k<(bs t).length:=by rw[← NR];exact h
 exact List.drop_eq_getElem_cons hl
end Go.Proofs.YtlhajmkjfcbhnaaGreat
namespace Go.Proofs.YtlhajmkjfcbhnaaGreat
end Go.Proofs.YtlhajmkjfcbhnaaGreat
namespace Go.Proofs.YtlhajmkjfcbhnaaGreat
open Go.RowKit
theorem Vf {e:D.Env}(hw:A2 e.M):∀ (l out:List Int),(∀ x∈out,B33 x)->∀ x∈(Iv (Bh e) out l).1,B33 x
 | [],out,h=>h
 | a::l,out,h=>by
  have hq:Iv (Bh e) out (a::l)=bif decide ((Bh e a).2≠0) then([],(Bh e a).2) else Iv (Bh e) (out++[(Bh e a).1]) l:=rfl
  rw[hq]
  cases c:decide ((Bh e a).2≠0) with
  | true=>intro x hx;cases hx
  | false =>
   refine Vf hw l _ fun x hx=>?_
   rcases List.mem_append.1 hx with hx | hx
   ·exact h x hx
   ·obtain rfl:=List.mem_singleton.1 hx
    exact(AbZ hw a (by simpa using c)).1
theorem Vg {e:D.Env}{l:List Int}(hw:A2 e.M){x:Int}(hx:x∈(BI e l).1):B33 x:=Vf hw l [] (fun x hx=>by cases hx) x hx
section
variable {e : D.Env} {w:Wy}
theorem Ade {l:List D.Process}{t j:Nat}{F:Nat->List VV}{to:Int}(ht:t<l.length)(hj:j<l.length)(hF:∀ i,i<l.length->F i=AB (l.getD i default)) :
  (bif j.beq t then(bif Nat.beq 1 4 then[Aa to] else List.take 1 (F t)++[Aa to]++List.drop 2 (F t)) else F j)=AB ((l.set t { l.getD t default with Loc:=to }).getD j default):=by
 rw[← Oy hj,hF t ht,hF j hj]
 all_goals rfl
theorem Sk (h:B5 e)(hin:w∈AF e)(h0:0<=w.Way):Aix e w/\(0<=w.With->Rr e (BG e w).S w):=by
 obtain⟨a1,a2,a3⟩:=(SI hin).2 h0
 obtain⟨_,_,a4,_⟩:=a3 w hin
 have hw:=h.ws (Mq a1 a2)
 have hA:BG e w∈CH (Br e) w.Esc:=An (by omega)
 have hB:0<=w.With->Rr e (BG e w).S w/\w.With≠e.Pid/\w.With<e.S.Procs.length:=fun hv=>by
  obtain⟨m1,m2,m3,m4,m5,m6,m7,m8,m9,m10⟩:=(AeU hin).2 hv
  exact⟨⟨⟨⟨h.ok.fits,h.ok.may,h.ok.wf,by show -1<=w.With;omega,m3⟩,hv⟩,m5,m6,m7,m8,m9,m10⟩,m2,m3⟩
 refine⟨⟨hw.st _ hA,hw.to _ hA,fun hv=>?_⟩,fun hv=>(hB hv).1⟩
 obtain⟨m,n1,n2⟩:=hB hv
 exact⟨n1,n2,m.st,m.kB,(m.hB.ws (Mq m.b1 m.b2)).to _ (An (by have:=m.b3;have:=m.b4;omega))⟩
end
structure Gs (m:D.Model) (s:D.State):Prop where
 wf:A2 m
 may:F2 m=true
 fits:EF m s
section
variable {m : D.Model} {s:D.State} {e:D.Env} {w:Wy}
theorem Gs.check (h:Gs m s):B3 m s=0:=by
 unfold B3
 rw[h.may,Cw.2 h.fits]<;>rfl
theorem Gs.fit (h:Gs m s):Fit s:=XR h.may (Cw.2 h.fits)
theorem Gs.small (h:Gs m s):F4 s:=h.fit.small
theorem Gs.pid (h:Gs m s){i:Int}{t:Bool}{a:List Bool}(h0:0<=i/\i<s.Procs.length):B5 ⟨m,s,i,t,a⟩/\Rb ⟨m,s,i,t,a⟩=0:=by
 refine⟨⟨⟨Cw.2 h.fits,h.may,h.wf,⟨by show -1<=i;omega,h0.2⟩⟩,h0.1⟩,?_⟩
 have h1:B3 (D.Env.mk m s i t a).M (D.Env.mk m s i t a).S=0:=h.check
 unfold Rb
 grind
theorem Gf (h0:Rb e=0):FT e=(AF e,0):=by
 unfold FT
 rw[h0]<;>rfl
theorem Aim (h:B5 e)(hin:w∈AF e)(hz:(goP e w).2.2=0):Whole e w (goP e w).1:=Afd h hin (fun h0=>(Sk h hin h0).1) hz
theorem Pf (h:B5 e)(hin:w∈AF e)(hz:(goP e w).2.2=0):Gs e.M (goP e w).1:=⟨h.ok.wf,h.ok.may,(Aim h hin hz).fits⟩
theorem Ks : ∀ {L:By} {l:List Int},(∀ n∈l,I64 n)->(B6 L l).length<=L.length*64
 | [],_,_=>Nat.zero_le _
 | [_],_,_=>by show 1<=1*64;omega
 | c::d::r,l,h=>by
  have i1:=Ks (L:=d::r) (l:=l) h
  have i2:=fun(l:List Int) (h:∀ n∈l,I64 n)=>Ks (L:=r) (l:=l) h
  unfold B6
  simp only[List.length_cons]at i1 ⊢
  cases (!(c==37)) with
  | true=>grind
  | false =>
   rw[cond_false]
   cases (d==37) with
   | true=>grind
   | false =>
    rw[cond_false]
    cases GA d with
    | false=>grind
    | true =>
     rw[cond_true]
     grind [List.mem_cons_of_mem,Qp,List.mem_cons_self,B7,List.length_append]
theorem N2 (h:B5 e)(hin:w∈AF e):(goP e w).2.1.size<=67108864:=by
 have hz:(ByteArray.mk #[]).size<=67108864:=by decide
 unfold goP goE
 cases decide (w.Err≠0) with
 | true=>exact hz
 | false =>
 rw[cond_false]
 cases c2:decide (w.Way<0) with
 | true=>exact hz
 | false =>
 rw[cond_false]
 cases decide ((Bn Ct e (BG e w).S w).2.2≠0) with
 | true=>exact hz
 | false =>
 rw[cond_false]
 have h0:0<=w.Way:=by grind
 have g:=(Sk h hin h0).1.st
 show(Bn Ct e (BG e w).S w).2.1.size<=_
 unfold Bn
 split
 ·grind
 split
 ·exact hz
 split
 ·exact hz
 split
 ·show(bif decide ((BI e (BG e w).S.Args).2≠0) then(⟨#[]⟩:ByteArray) else Ct (BG e w).S.Text (BI e (BG e w).S.Args).1).size<=_
  cases decide ((BI e (BG e w).S.Args).2≠0) with
  | true=>exact hz
  | false =>
   rw[cond_false]
   have h1:=g.wf.Text
   have h2:=Ks (L:=bs (BG e w).S.Text) (l:=(BI e (BG e w).S.Args).1) fun x hx=>by
    have:=Vg h.ok.wf hx
    unfold B33 at this
    unfold I64
    omega
   unfold Ct
   grind [B7,NR]
 grind
theorem Q7 {n:Nat}{g:Gn}(h:g∈BV e n):∃ i:Nat,i<n/\g=(Bq e i,(FT (Bq e i)).1):=by
 induction n with
 | zero=>cases h
 | succ n ih =>
  rcases List.mem_append.1 (show g∈BV e n++EB e n from h) with h | h
  ·grind
  ·unfold EB at h
   grind
theorem QU {e:D.Env}:∀ {l:List Gn} {most:Int} {g:Gn},(Cf e most l).1=some g->g∈l
 | [],_,_,h=>by cases h
 | x::r,most,g,h=>by
  unfold Cf at h
  cases c:decide (x.1.Pid=e.S.Alone) with
  | true =>
   grind
  | false =>
   rw[c,cond_false]at h
   exact List.mem_cons_of_mem _ (QU h)
theorem KC {g:Gn}(h:g∈CC e):∃ i:Nat,i<e.S.Procs.length/\g=(Bq e i,(FT (Bq e i)).1):=by
 unfold CC at h
 refine Q7 (n:=e.S.Procs.length) ?_
 split at h
 ·next g' _ hq =>
  rw[List.mem_singleton.1 h]
  exact QU (congrArg Prod.fst hq)
 grind
theorem Ii (h:Gs m s){g:Gn}(hg:g∈FS m s):∃ (i:Nat) (t:Bool),i<s.Procs.length/\g=(⟨m,s,i,t,Cp m s s.Procs.length⟩,AF ⟨m,s,i,t,Cp m s s.Procs.length⟩):=by
 have ha:DP m s=Cp m s s.Procs.length:=by
  unfold DP
  rw[h.check]<;>rfl
 have key:∀ t,g∈CC ⟨m,s,0,t,DP m s⟩->∃ (i:Nat) (t:Bool),i<s.Procs.length/\g=(⟨m,s,i,t,Cp m s s.Procs.length⟩,AF ⟨m,s,i,t,Cp m s s.Procs.length⟩):=by
  intro t hg
  obtain⟨i,hi,rfl⟩:=KC hg
  have hi:i<s.Procs.length:=hi
  refine⟨i,t,hi,?_⟩
  rw[ha]
  have:=Gf (h.pid (i:=i) (t:=t) (a:=Cp m s s.Procs.length) ⟨by omega,by omega⟩).2
  exact Prod.ext rfl (congrArg Prod.fst this)
 unfold FS at hg
 grind
theorem JH : ∀ {l:List Gn} {p:D.Env × Wy},p∈CA l->∃ g∈l,p.1=g.1/\p.2∈g.2
 | [],_,h=>by cases h
 | g::r,p,h=>by
  rcases List.mem_append.1 (show p∈g.2.map (fun w=>(g.1,w))++CA r from h) with h | h
  ·obtain⟨w,hw,rfl⟩:=List.mem_map.1 h
   exact⟨g,List.mem_cons_self,rfl,hw⟩
  ·obtain⟨g',h1,h2⟩:=JH h
   exact⟨g',List.mem_cons_of_mem _ h1,h2⟩
theorem AbY (h:Gs m s){p:D.Env × Wy}(hp:p∈GC m s):p.1.M=m/\p.1.S=s/\B5 p.1/\Rb p.1=0/\p.2∈AF p.1:=by
 obtain⟨g,hg,h1,h2⟩:=JH hp
 obtain⟨i,t,hi,rfl⟩:=Ii h hg
 have hx:=h.pid (i:=i) (t:=t) (a:=Cp m s s.Procs.length) ⟨by omega,by omega⟩
 grind
theorem Q8 {n:Nat}:(BV e n).length<=n:=by
 induction n with
 | zero=>exact Nat.le_refl _
 | succ n ih =>
  show(BV e n++EB e n).length<=_
  rw[List.length_append]
  have:(EB e n).length<=1:=by
   unfold EB
   grind
  omega
theorem XS : (CC e).length<=e.S.Procs.length+1:=by
 unfold CC
 grind [Nat.le_succ_of_le,Nat.le_trans,List.length_filter_le,Q8]
theorem QR {K:Nat}:∀ {l:List Gn},(∀ g∈l,g.2.length<=K)->(CA l).length<=l.length*K
 | [],_=>Nat.zero_le _
 | g::r,h=>by
  show(g.2.map (fun w=>(g.1,w))++CA r).length<=_
  have h1:=h g List.mem_cons_self
  have h2:=QR (l:=r) fun x hx=>h x (List.mem_cons_of_mem _ hx)
  rw[List.length_append,List.length_map,List.length_cons,Nat.succ_mul]
  omega
theorem Pg (h:Gs m s):(FS m s).length<=17:=by
 have hp:=h.fits.pl
 have h1:=fun t=>XS (e:=⟨m,s,0,t,DP m s⟩)
 have h2:∀ t,(CC ⟨m,s,0,t,DP m s⟩).length<=17:=(by grind)
 unfold FS
 grind
theorem Re (h:Gs m s):(GC m s).length<=285230080:=by
 have h1:=Pg h
 have h2:=QR (K:=16778240) (l:=FS m s) fun g hg=>by
  obtain⟨i,t,hi,rfl⟩:=Ii h hg
  exact JG (h.pid (i:=i) (t:=t) (a:=Cp m s s.Procs.length) ⟨by omega,by omega⟩).1
 have h3:=Nat.mul_le_mul_right 16778240 h1
 unfold GC
 omega
end
def D1 (p:D.Env × Int):D.State × Int:=(bif decide (p.2≠0) then P3 else p.1.S,p.2)
def QO (f:FuncId)(xs:List VV)(p:D.Env × Int):Prop:=∃ r:D.State × Int,(r.2=p.2/\(p.2=0->r.1=p.1.S))/\Al Tryz.prog f [] xs [] (.tup [.agg (Ae r.1),Aa r.2])
abbrev VO (f:FuncId)(xs:List VV)(p:D.Env × Int):Prop:=Al Tryz.prog f [] xs [] (.tup [.agg (Ae (D1 p).1),Aa (D1 p).2])
def PJ : Prop:=∀ {e:D.Env} {x v:Int},B5 e->0<=x->x<e.M.Exprs.length->(Ao e.M x).Op=2->VO 90 [.agg (Ah e),Aa x,Aa v] (Be e x v)
def Yd : Prop:=∀ {t:ByteArray} {l:List Int},(∀ n∈l,I64 n)->t.size<=1048576->l.length<=1048576->Al Tryz.prog 87 [] [AS t,Ad true l] [] (AS (Ct t l))
theorem Ek {p:D.Env × Int}{c:Int}(h:p.2=c)(hc:c≠0):leO [] []/\VV.le (.tup [.agg [.nl,.nl,.nl,Aa 0,Aa 0,Aa 0],Aa c]) (.tup [.agg (Ae (D1 p).1),Aa (D1 p).2]):=by
 unfold D1
 rw[h,decide_eq_true hc,cond_true]
 exact⟨trivial,VV.le_tup ⟨VV.le_agg ⟨VV.le_nil,VV.le_nil,VV.le_nil,VV.le_refl _,VV.le_refl _,VV.le_refl _,trivial⟩,VV.le_refl _,trivial⟩⟩
theorem Fx {p:D.Env × Int}(h:p.2=0):D1 p=(p.1.S,0):=by
 unfold D1
 rw[h]
 rfl
theorem Ah7 {f:FuncId}{xs:List VV}{p:D.Env × Int}(h:VO f xs p):QO f xs p:=⟨D1 p,⟨rfl,fun h=>by rw[Fx h]⟩,h⟩
section
variable {e : D.Env} {s:D.Stmt} {w:Wy}
theorem L7 {m:D.Model}{a:Int}(h:BF m a=true):(0<=a/\a<m.Exprs.length)/\(Ao m a).Op=2/\(Ao m a).V.Scope≠2:=by
 unfold BF CX at h
 simp only[Bool.and_eq_true,decide_eq_true_eq]at h
 exact⟨B1.1 h.1.1,h.1.2,h.2⟩
theorem C4.take {m:D.Model}(h:C4 m s)(hk:s.Kind=6){j:Nat}(hj:j<s.Args.length)(hm:s.Match.getD j 0=0):BF m (s.Args.getD j 0)=true:=by
 have h6:=h.k6 hk
 have:=h.st
 unfold Au at this
 rw[if_neg (by omega),if_neg (by omega),if_neg (by omega),if_neg (by omega),if_pos hk]at this
 simp only[Bool.and_eq_true]at this
 have:=this.1.1.1.2
 unfold Fd at this
 simp only[Bool.and_eq_true]at this
 have:=AK.1 this.2 j (by omega)
 rw[hm]at this
 simpa using this
theorem B5.stored (h:B5 e){x v:Int}(hs:(Ao e.M x).V.Scope≠2)(hz:(Be e x v).2=0):B5 (Be e x v).1:=by
 obtain⟨k1,k2,k3,k4,k5⟩:=Gj (v:=v) h.ok.wf hs
 have hp:=h.ok.pid
 exact⟨⟨by rw[k3];exact Cw.2 (k5 hz),by rw[k3];exact h.ok.may,by rw[k3];exact h.ok.wf,by rw[k4,k2];exact hp⟩,by rw[k4];exact h.p0⟩
theorem Vw {x v:Int}(hz:(Be e x v).2=0):(Be e x v).1={ e with S:=(Be e x v).1.S }:=by
 have hq:(Be e x v).1={ e with S:=(BM e x v).1 }:=by
  show stE e x v=_
  unfold stE
  rw[decide_eq_true (show(BM e x v).2=0 from hz)]
  rfl
 rw[hq]
theorem IZ (hS:PJ){m:List Int}(h:B5 e)(hs:C4 e.M s)(hk:s.Kind=6)(hm:m.length=s.Args.length):VO 126 [.agg (Ah e),.agg (Ar s),Ad true m] (Ee e s m):=by
 have hal:=hs.args
 have h6:=hs.k6 hk
 refine Ag Ai Aj Tryz.func126 (by kernel_rfl) rfl (WW (D1 (Ee e s m)) e s m) ?_
 refine AA Ai Aj (fun g st=>∃ (k:Nat) (e':D.Env),k<=s.Args.length/\B5 e'/\e'.M=e.M/\Dw m s.Match k (s.Args.drop k) e'=Ee e s m/\g=s.Args.length - k/\st=YL e' s m k) (by kernel_rfl) (by kernel_rfl) ⟨_,Up.of ⟨0,e,Nat.zero_le _,h,rfl,rfl,rfl,rfl⟩⟩ ?_
 rintro g st ⟨k,e',hkl,h',hM,hG,rfl,rfl⟩
 have hto:(k:Int).toNat=k:=by omega
 refine AY.raw (T9 _ e' s m k _) ⟨fun hlt=>?_,fun hge=>?_⟩
 ·have hlt':k<s.Args.length:=by have:=AG hlt;omega
  rw[hto]
  rw[Bb (d:=0) hlt']at hG
  unfold Dw at hG
  refine⟨⟨by omega,by omega⟩,fun hy=>⟨s.Args.length - (k+1),by omega,Up.of ⟨k+1,e',hlt',h',hM,?_,rfl,by rw[Ak (by omega)]⟩⟩,fun hy=>?_⟩
  ·rw[decide_eq_true (show s.Match.getD k 0≠0 by simpa using hy),cond_true]at hG
   exact hG
  ·have hy:s.Match.getD k 0=0:=by simpa using hy
   rw[hy,decide_eq_false (by simp),cond_false]at hG
   obtain⟨t1,t2,t3⟩:=L7 (hs.take hk hlt' hy)
   rw[← hM]at t1 t2 t3
   obtain⟨y,⟨y1,y2⟩,y3⟩:=Ah7 (hS (v:=m.getD k 0) h' t1.1 t1.2 t2)
   have y1:y.2=(BM e' (s.Args.getD k 0) (m.getD k 0)).2:=y1
   refine⟨⟨by omega,by omega⟩,⟨by omega,by omega⟩,y,y3,fun hb=>?_,fun hb=>?_⟩
   ·have hb:(BM e' (s.Args.getD k 0) (m.getD k 0)).2≠0:=by rw[← y1];simpa using hb
    rw[decide_eq_true hb,cond_true]at hG
    rw[y1]
    exact Ek (by rw[← hG]) hb
   ·have hb:(BM e' (s.Args.getD k 0) (m.getD k 0)).2=0:=by rw[← y1];simpa using hb
    rw[decide_eq_false (fun hn=>hn hb),cond_false]at hG
    have hz:(Be e' (s.Args.getD k 0) (m.getD k 0)).2=0:=hb
    have henv:=Vw hz
    rw[← y2 hz]at henv
    refine⟨s.Args.length - (k+1),by omega,Up.of ⟨k+1,(Be e' (s.Args.getD k 0) (m.getD k 0)).1,hlt',h'.stored t3 hz,?_,hG,rfl,?_⟩⟩
    ·rw[henv];exact hM
    ·rw[henv,Ak (by omega)]
     rfl
 ·rw[List.drop_of_length_le (by have:=AI hge;omega)]at hG
  have hG:(e',(0:Int))=Ee e s m:=hG
  rw[Fx (by rw[← hG]),← hG]
  exact⟨trivial,VV.le_refl _⟩
theorem Adp {x:Int}(h:BR e)(hx:0<=x/\x<e.M.Exprs.length)(ho:(Ao e.M x).Op=39):(0<=(Ao e.M x).N/\(Ao e.M x).N<e.M.Procs.length/\(Ao e.M x).N≠e.M.Claim)/\((Ao e.M x).Args.length:Int)=(AN e.M (Ao e.M x).N).Params/\∀ a∈(Ao e.M x).Args,0<=a/\a<e.M.Exprs.length:=by
 have hp:=h.expr x.toNat (by omega)
 rw[show((x.toNat:Nat):Int)=x by omega]at hp
 unfold CP at hp
 simp only[Bool.and_eq_true]at hp
 have h3:=hp.2
 rw[if_neg (by omega),if_neg (by omega),if_neg (by omega),if_neg (by omega),if_pos ho]at h3
 unfold Cu at h3
 simp only[Bool.and_eq_true,decide_eq_true_eq]at h3
 refine⟨⟨h3.1.1.2.1.1,h3.1.1.2.1.2,h3.1.1.2.2⟩,h3.1.2,fun a ha=>?_⟩
 have:=Mo h3.2 a ha
 omega
theorem U6 {x:Int}(h:BR e)(hx:0<=x/\x<e.M.Exprs.length)(ho:(Ao e.M x).Op=39):((Bj e x).1,(Bj e x).2.2)=bif decide ((BI e (Ao e.M x).Args).2≠0) then(e,(BI e (Ao e.M x).Args).2) else(FW e (Ft e.M (Ao e.M x).N (BI e (Ao e.M x).Args).1),0):=by
 obtain⟨⟨n1,n2,n3⟩,n4,_⟩:=Adp h hx ho
 unfold Bj
 cases c:decide ((BI e (Ao e.M x).Args).2≠0) with
 | true=>rfl
 | false =>
  have hl:=L1 (show(BI e (Ao e.M x).Args).2=0 by simpa using c)
  have hq:IV e.M (Ao e.M x).N (BI e (Ao e.M x).Args).1=(Ft e.M (Ao e.M x).N (BI e (Ao e.M x).Args).1,0):=by
   unfold IV
   rw[h.may,Bool.not_true,cond_false,decide_eq_false (by omega),decide_eq_false (by omega),decide_eq_false n3,decide_eq_false (show ¬ (((BI e (Ao e.M x).Args).1.length:Int)≠(AN e.M (Ao e.M x).N).Params) by omega)]
   rfl
  rw[cond_false,cond_false,hq]
  rfl
theorem OU {x:Int}(h:B5 e)(hx:0<=x/\x<e.M.Exprs.length)(ho:(Ao e.M x).Op=39):VO 84 [.agg (Ah e),Aa x] ((Bj e x).1,(Bj e x).2.2):=by
 have hq:=U6 h.ok hx ho
 obtain⟨⟨n1,n2,n3⟩,n4,n5⟩:=Adp h.ok hx ho
 generalize ((Bj e x).1,(Bj e x).2.2)=R at hq ⊢
 have hf:=h.ok.fit
 have hp:=hf.p
 have hwx:=h.ok.wf.Exprs.2 _ (An (d:=default) (show x.toNat<e.M.Exprs.length by omega))
 have hal:(Ao e.M x).Args.length<=1048576:=hwx.Args.1
 obtain⟨f1,_⟩:=EJ (CB h.ok.may).2.1 (Ao e.M x).N.toNat (by omega)
 have f1:Eg (AN e.M (Ao e.M x).N)=true:=f1
 unfold Eg at f1
 simp only[Bool.and_eq_true,decide_eq_true_eq]at f1
 obtain⟨⟨⟨⟨⟨⟨⟨⟨f1,f2⟩,f3⟩,f4⟩,f5⟩,_⟩,_⟩,_⟩,_⟩:=f1
 refine Ag Ai Aj Tryz.func84 (by kernel_rfl) rfl (Aa8 (D1 R) e x) ⟨hx,BI e (Ao e.M x).Args,Mg h.ok hal n5,fun hb=>?_,fun hb=>?_⟩
 ·have hb:(BI e (Ao e.M x).Args).2≠0:=by simpa using hb
  rw[decide_eq_true hb,cond_true]at hq
  exact Ek (by rw[hq]) hb
 ·have hb:(BI e (Ao e.M x).Args).2=0:=by simpa using hb
  have hl:=L1 hb
  rw[decide_eq_false (fun hn=>hn hb),cond_false]at hq
  have q1:(BI e (Ao e.M x).Args).1.length<=(AN e.M (Ao e.M x).N).Frame.length:=by omega
  have q2:(BI e (Ao e.M x).Args).1.length<=(AN e.M (Ao e.M x).N).Init.length:=by omega
  refine⟨e.S,Fi hf,hx,Ft e.M (Ao e.M x).N (BI e (Ao e.M x).Args).1,Ub h.ok.wf ⟨n1,n2⟩ (by omega) q1 q2,by omega,?_⟩
  rw[Fx (by rw[hq]),hq]
  refine⟨trivial,VV.le_tup ⟨VV.le_agg ⟨VV.le_refl _,VV.le_refl _,?_,VV.le_refl _,VV.le_refl _,VV.le_refl _,trivial⟩,VV.le_refl _,trivial⟩⟩
  generalize Ft e.M (Ao e.M x).N (BI e (Ao e.M x).Args).1=p
  show VV.le _ (.sl true (e.S.Procs++[p]).length 4 fun i=>AB ((e.S.Procs++[p]).getD i default))
  rw[List.length_append,List.length_singleton]
  refine VV.le_sl (.inl rfl) fun i hi=>AZ ?_
  exact Bz (l:=e.S.Procs) (r:=[p]) (f:=AB) (d:=default) (F:=fun i=>AB (e.S.Procs.getD i default)) (G:=fun i=>List.take 4 (List.drop (i*4) (AB p))) (fun i hi=>rfl) (fun i hi=>by
   obtain rfl:i=0:=by simpa using hi
   rfl) (by simpa using hi)
end
theorem JK {p:D.Env × Int}:leO [] []/\VV.le (.tup [.agg (Ae (D1 p).1),Aa (D1 p).2]) (.tup [.agg (Ae (D1 p).1),Aa (D1 p).2]):=⟨trivial,VV.le_refl _⟩
section
variable {e : D.Env} {s:D.Stmt} {w:Wy}
theorem Aca {x:Int}(h:(Bj e x).2.2=0):(Bj e x).2.1=e.S.Procs.length:=by
 unfold Bj at h ⊢
 cases c1:decide ((BI e (Ao e.M x).Args).2≠0) with
 | true=>rw[c1,cond_true]at h;exact absurd h (of_decide_eq_true c1)
 | false =>
  rw[c1,cond_false]at h
  rw[cond_false]
  cases c2:decide ((IV e.M (Ao e.M x).N (BI e (Ao e.M x).Args).1).2≠0) with
  | true=>rw[c2,cond_true]at h;exact absurd h (of_decide_eq_true c2)
  | false=>rfl
theorem C4.set2 {m:D.Model}(hs:C4 m s)(hk:s.Kind=2):BF m s.A=true:=by
 have:=hs.st
 unfold Au at this
 rw[if_neg (by omega),if_pos hk]at this
 simp only[Bool.and_eq_true]at this
 exact this.1.1
theorem C4.set9 {m:D.Model}(hs:C4 m s)(hk:s.Kind=9):BF m s.A=true/\0<=s.N/\s.N<m.Shapes.length:=by
 have:=hs.st
 unfold Au at this
 rw[if_neg (by omega),if_neg (by omega),if_neg (by omega),if_neg (by omega),if_neg (by omega),if_neg (by omega),if_pos hk]at this
 simp only[Bool.and_eq_true,decide_eq_true_eq]at this
 exact⟨this.1.1.1.1,this.1.1.2,this.1.2⟩
theorem AaM (hS:PJ)(h:B5 e)(hs:C4 e.M s)(hk:s.Kind=2)(hr:BJ e s.B=true->e.S.Procs.length<16):VO 85 [.agg (Ah e),.agg (Ar s)] (Ei e s):=by
 have hB:=hs.k2 hk
 have hpl:=h.ok.fit.p
 obtain⟨t1,t2,t3⟩:=L7 (hs.set2 hk)
 have hq:Ei e s=bif BJ e s.B then(bif decide ((Bj e s.B).2.2≠0) then((Bj e s.B).1,(Bj e s.B).2.2) else Be (Bj e s.B).1 s.A (Bj e s.B).2.1)
  else bif decide ((Bh e s.B).2≠0) then(e,(Bh e s.B).2) else Be e s.A (Bh e s.B).1:=rfl
 generalize Ei e s=R at hq ⊢
 refine Ag Ai Aj Tryz.func85 (by kernel_rfl) rfl (AdA (D1 R) e s) ⟨BJ e s.B,JD fun _=>hB.2,fun h1=>?_,fun h1=>⟨Bh e s.B,Hm h.ok hB,fun h2=>?_,fun h2=>?_⟩⟩
 ·have ho:(Ao e.M s.B).Op=39:=by
   unfold BJ at h1
   simp only[Bool.and_eq_true,decide_eq_true_eq]at h1
   exact h1.2
  rw[h1,cond_true]at hq
  have hb:=U6 h.ok hB ho
  refine⟨_,OU h hB ho,fun h2=>?_,fun h2=>?_⟩
  ·have h2:(Bj e s.B).2.2≠0:=by simpa[D1] using h2
   rw[decide_eq_true h2,cond_true]at hq
   exact Ek (by rw[hq];rfl) h2
  ·have h2:(Bj e s.B).2.2=0:=by simpa[D1] using h2
   rw[decide_eq_false (fun hn=>hn h2),cond_false]at hq
   have hall:(BI e (Ao e.M s.B).Args).2=0:=by
    cases c:decide ((BI e (Ao e.M s.B).Args).2≠0) with
    | false=>simpa using c
    | true=>rw[c,cond_true]at hb;exact absurd ((congrArg Prod.snd hb).symm.trans h2) (of_decide_eq_true c)
   rw[decide_eq_false (fun hn=>hn hall),cond_false]at hb
   have hb1:(Bj e s.B).1=FW e (Ft e.M (Ao e.M s.B).N (BI e (Ao e.M s.B).Args).1):=congrArg Prod.fst hb
   have d:=Ro (b:=fun i=>i=e.Pid) (e:=e) (x:=s.B) (Cw.1 h.ok.fits) (hr h1)
   have f:=d.fits h2
   rw[hb,Fx (p:=(FW e (Ft e.M (Ao e.M s.B).N (BI e (Ao e.M s.B).Args).1),0)) rfl]
   rw[hb1]at hq f
   rw[Aca h2]at hq
   generalize Ft e.M (Ao e.M s.B).N (BI e (Ao e.M s.B).Args).1=p at hq f ⊢
   have hpid:=h.ok.pid
   have hp2:B5 (FW e p):=⟨⟨Cw.2 f,h.ok.may,h.ok.wf,hpid.1,by show e.Pid<((e.S.Procs++[p]).length:Int);simp;omega⟩,h.p0⟩
   have hl:IntKind.i64.wrap (((FW e p).S.Procs.length:Int) - 1)=e.S.Procs.length:=by
    rw[show((FW e p).S.Procs.length:Int) - 1=e.S.Procs.length by show((e.S.Procs++[p]).length:Int) - 1=_;simp]
    exact AL (by omega) (by omega)
   refine⟨D1 R,?_,JK⟩
   show Al _ _ _ [.agg (Ah (FW e p)),Aa s.A,Aa (IntKind.i64.wrap (((FW e p).S.Procs.length:Int) - 1))] _ _
   rw[hl,hq]
   exact hS hp2 t1.1 t1.2 t2
 ·have h2:(Bh e s.B).2≠0:=by simpa using h2
  rw[h1,cond_false,decide_eq_true h2,cond_true]at hq
  exact Ek (by rw[hq]) h2
 ·have h2:(Bh e s.B).2=0:=by simpa using h2
  rw[h1,cond_false,decide_eq_false (fun hn=>hn h2),cond_false]at hq
  refine⟨D1 R,?_,JK⟩
  rw[hq]
  exact hS h t1.1 t1.2 t2
theorem Tr {l:List D.Chan}{t j:Nat}{c:D.Chan}(hj:j<l.length):(bif j.beq t then Aw c else Aw (l.getD j default))=Aw ((l.set t c).getD j default):=by
 rw[CZ]
 cases hq:Nat.beq j t with
 | true =>
  have:=Nat.eq_of_beq_eq_true hq
  rw[if_pos ⟨this.symm,hj⟩]
  rfl
 | false=>rw[if_neg fun h=>by rw[← h.1,Nat.beq_refl]at hq;cases hq];rfl
theorem Uv : Ax e s=bif decide ((CN e s).2≠0) then(0,[],(CN e s).2) else((bif decide ((BI e s.Args).2≠0) then 0 else(CN e s).1),(Ax e s).2):=by
 unfold Ax CN
 grind
theorem AcJ (hE:BR e)(h:(CN e s).2=0):Ny e (CN e s).1/\(CN e s).1=(AC e s.A).1/\(AC e s.A).2=0/\(Bo e (AC e s.A).1).length=s.Args.length:=by
 unfold CN at h ⊢
 cases c1:decide ((AC e s.A).2≠0) with
 | true=>rw[c1,cond_true]at h;exact absurd h (of_decide_eq_true c1)
 | false =>
  rw[c1,cond_false]at h
  rw[cond_false]
  have h0:(AC e s.A).2=0:=by simpa using c1
  cases c2:decide ((Bo e (AC e s.A).1).length≠s.Args.length) with
  | true=>rw[c2]at h;cases h
  | false=>exact⟨FL hE.wf h0,rfl,h0,by simpa using c2⟩
theorem X8 (h:BR e){c:D.Chan}(hc:c∈e.S.Chans):c.Queue.length<=1024/\∀ y∈c.Queue,y.length<=1048576:=by
 have hf:=h.fit.q c hc
 exact⟨by omega,fun y hy=>by have:=hf.2 y hy;omega⟩
theorem M3 {s:D.Shape}(h:CF s=true):(∀ t∈s.Fields,Eb t=true)/\s.Fields.length<=8:=by
 unfold CF at h
 simp only[Bool.and_eq_true,decide_eq_true_eq]at h
 exact⟨(Co (d:=default) (f:=fun t=>Eb t)).1 h.2,h.1.2⟩
theorem TY (hS:PJ)(h:B5 e)(hs:C4 e.M s)(hk:s.Kind=5)(hm:0<=w.With->Rr e s w):QO 88 [.agg (Ah e),.agg (Ar s),.agg (Bu w)] (ER e s w):=by
 have hf:=h.ok.fit
 have hfp:=hf.p
 have hfc:=hf.c
 have hq:ER e s w=bif decide ((Ax e s).2.2≠0) then(e,(Ax e s).2.2)
   else bif decide (0<=w.With) then({ e with S:=(Ee (Bq e w.With) (DZ e w).S (Ax e s).2.1).1.S },(Ee (Bq e w.With) (DZ e w).S (Ax e s).2.1).2) else Qt e s:=rfl
 have hmt:=Uv (e:=e) (s:=s)
 have hmi:=fun hz=>O6 (e:=e) (s:=s) h.ok.wf hz
 obtain⟨r,hr⟩:∃ r:D.State × Int,r=bif decide ((Ax e s).2.2≠0)||decide (0<=w.With) then D1 (ER e s w) else((Qt e s).1.S,(Qt e s).2):=⟨_,rfl⟩
 refine⟨r,?_,?_⟩
 ·rw[hr,hq]
  cases c1:decide ((Ax e s).2.2≠0) with
  | true=>exact⟨rfl,fun hz=>absurd hz (of_decide_eq_true c1)⟩
  | false =>
   cases c2:decide (0<=w.With) with
   | true=>exact⟨rfl,fun hz=>congrArg Prod.fst (Fx hz)⟩
   | false=>exact⟨rfl,fun _=>rfl⟩
 refine Ag Ai Aj Tryz.func88 (by kernel_rfl) rfl (Wz r e s w) ⟨CN e s,F1 h.ok (hs.kA (.inr (.inl hk))),fun h1=>?_,fun h1=>?_⟩
 ·have h1:(CN e s).2≠0:=by simpa using h1
  rw[decide_eq_true h1,cond_true]at hmt
  have hz:(Ax e s).2.2=(CN e s).2:=by rw[hmt]
  rw[decide_eq_true (show(Ax e s).2.2≠0 by rw[hz];exact h1),Bool.true_or,cond_true]at hr
  rw[hr]
  refine Ek ?_ h1
  rw[hq,decide_eq_true (show(Ax e s).2.2≠0 by rw[hz];exact h1),cond_true]
  exact hz
 have h1:(CN e s).2=0:=by simpa using h1
 obtain⟨hci,n1,n2,n3⟩:=AcJ h.ok h1
 refine⟨(Ax e s).2,by rw[n1];exact QK h.ok hs n2 n3,fun h2=>?_,fun h2=>?_⟩
 ·have h2:(Ax e s).2.2≠0:=by simpa using h2
  rw[decide_eq_true h2,Bool.true_or,cond_true]at hr
  rw[hr]
  refine Ek ?_ h2
  rw[hq,decide_eq_true h2,cond_true]
 have h2:(Ax e s).2.2=0:=by simpa using h2
 obtain⟨mi1,mi2⟩:=hmi h2
 have hm1:(Ax e s).1=(CN e s).1:=by
  have ha:(BI e s.Args).2=0:=Classical.byContradiction fun hn=>by
   unfold Ax at h2
   rw[decide_eq_false (fun hx=>hx n2),cond_false,decide_eq_false (fun hx=>hx n3),cond_false,decide_eq_true hn,cond_true]at h2
   exact hn h2
  rw[decide_eq_false (fun hn=>hn h1),cond_false,decide_eq_false (fun hn=>hn ha),cond_false]at hmt
  exact congrArg Prod.fst hmt
 rw[decide_eq_false (fun hn=>hn h2),cond_false]at hq
 rw[decide_eq_false (fun hn=>hn h2),Bool.false_or]at hr
 refine⟨fun h3=>?_,fun h3=>?_⟩
 ·have h3:0<=w.With:=of_decide_eq_true h3
  obtain⟨m1,m2,m3,m4,m5,m6,m7⟩:=hm h3
  have mst:=(hm h3).st
  rw[decide_eq_true h3,cond_true]at hq hr
  have hlq:GZ (Br (Bq e w.With)) w.WithEsc=CH (Br (Bq e w.With)) w.WithEsc:=rfl
  refine⟨Bq e w.With,Ko,_,Gu m1 (fun _=>m3),⟨m4,m5⟩,D1 (Ee (Bq e w.With) (DZ e w).S (Ax e s).2.1),?_,?_⟩
  ·refine IZ hS m1 mst m6 ?_
   show _=(DZ e w).S.Args.length
   rw[← m7,D7 mi2,hm1,n1,n3]
  ·rw[hr,hq]
   exact⟨trivial,VV.le_refl _⟩
 ·have h3:¬ 0<=w.With:=of_decide_eq_false h3
  rw[decide_eq_false h3,cond_false]at hq hr
  have hr2:r=((Hj e (CN e s).1 (RX e.M (BP e (CN e s).1) (Ax e s).2.1 (decide (s.N=1))).1).S,(RX e.M (BP e (CN e s).1) (Ax e s).2.1 (decide (s.N=1))).2):=by
   rw[hr]
   unfold Qt
   rw[hm1]
  rw[hm1]at mi2
  have hlen:(Ax e s).2.1.length=(Bo e (CN e s).1).length:=D7 mi2
  generalize hn:(CN e s).1=n at hci hr2 mi2 hlen ⊢
  have g1:=hci.lo
  have g2:=hci.hi
  have g3:=hci.le
  have hmem:BP e n∈e.S.Chans:=An (by omega)
  obtain⟨q1,q2⟩:=X8 h.ok hmem
  have hshp:=hci.ok.tab.shape (BP e n).Shape.toNat (by have:=hci.sh;omega)
  have hty:∀ t∈(BW e.M (BP e n).Shape).Fields,Eb t=true:=(M3 hshp).1
  have hfl:(BW e.M (BP e n).Shape).Fields.length<=8:=(M3 hshp).2
  rw[AL (by omega) (by omega)]
  have hN:(s.N==(1:Int))=decide (s.N=1):=by grind
  rw[hN]
  refine⟨e.S,Fi hf,⟨by omega,by omega⟩,hci.sh,⟨by omega,by omega⟩,RX e.M (BP e n) (Ax e s).2.1 (decide (s.N=1)),?_,⟨by omega,by omega⟩,?_⟩
  ·exact AaQ (s:=BW e.M (BP e n).Shape) (c:=BP e n) hlen hty (by rw[hlen];show(BW e.M (BP e n).Shape).Fields.length<=_;omega) q1 q2
  ·rw[hr2]
   refine⟨trivial,VV.le_tup ⟨VV.le_agg ⟨VV.le_refl _,?_,VV.le_refl _,VV.le_refl _,VV.le_refl _,VV.le_refl _,trivial⟩,VV.le_refl _,trivial⟩⟩
   generalize (RX e.M (BP e n) (Ax e s).2.1 (decide (s.N=1))).1=k
   show VV.le _ (.sl true (e.S.Chans.set (n - 1).toNat k).length 2 fun i=>Aw ((e.S.Chans.set (n - 1).toNat k).getD i default))
   rw[List.length_set]
   exact VV.le_sl (.inl rfl) fun i hi=>AZ (Tr (c:=k) (t:=(n - 1).toNat) hi)
end
section
variable {e : D.Env} {s:D.Stmt} {w:Wy}
theorem Nc {r:D.State × Int}{m:List Int}{S C:D.State}{n:Nat}{F:Nat->List VV}(hn:C.Chans.length=n)(hF:∀ i,i<n->F i=Aw (C.Chans.getD i default))(hC:C={ S with Chans:=C.Chans })
  (h:Aq (fc B2 Fu Tryz.f89 [] (.tup [.agg (Ae r.1),Aa r.2])) XF (Aho { e with S:=C } s m)) :
  Aq (fc B2 Fu Tryz.f89 [] (.tup [.agg (Ae r.1),Aa r.2])) XF (Av [(2,.bp 0 0),(3,.bp 4 0),(4,.bp 5 0),(12,Ad true m)] [.box [Az true e.M.Globals,Ad true e.M.Init,AX true e.M.Shapes,Ad true e.M.Chans,AM true e.M.Procs,Aa e.M.Claim,A7 true e.M.Exprs,.ow 1 0 S.Globals.length,.ow 2 0 n,.ow 3 0 S.Procs.length,Aa S.Last,Aa S.Alone,Aa S.Claim,Aa e.Pid,Ac e.Timeout,AR true e.Able],
   obG S,.arr true 0 n 2 F,obP S,.box (Ar s),.box DU]):=by
 refine Aq.cv (Cv.pubB (hs':=[.box [Az true e.M.Globals,Ad true e.M.Init,AX true e.M.Shapes,Ad true e.M.Chans,AM true e.M.Procs,Aa e.M.Claim,A7 true e.M.Exprs,.sl true S.Globals.length 1 (AJ S.Globals),.sl true n 2 F,.sl true S.Procs.length 4 (C9 S.Procs),Aa S.Last,Aa S.Alone,Aa S.Claim,Aa e.Pid,Ac e.Timeout,AR true e.Able],
   obG S,.arr true 0 n 2 F,obP S,.box (Ar s),.box DU]) (ids:=[1,2,3]) 8 rfl) ?_
 refine Aq.forget [2,3,4,12] rfl ?_
 refine Aq.le (AU _) (hs':=[.box (Ah { e with S:=C }),.box (Ar s),.box DU]) ⟨Ob.le_box ?_,Ob.le_refl _,Ob.le_refl _,trivial⟩ h
 rw[hC]
 refine⟨VV.le_refl _,VV.le_refl _,VV.le_refl _,VV.le_refl _,VV.le_refl _,VV.le_refl _,VV.le_refl _,VV.le_refl _,?_,VV.le_refl _,VV.le_refl _,VV.le_refl _,VV.le_refl _,VV.le_refl _,VV.le_refl _,VV.le_refl _,trivial⟩
 show VV.le _ (.sl true C.Chans.length 2 fun i=>Aw (C.Chans.getD i default))
 rw[hn]
 exact VV.le_sl (.inl rfl) fun i hi=>AZ (hF i hi)
theorem AbQ : Bg e s=bif decide ((CN e s).2≠0) then(0,-1,(CN e s).2) else bif decide ((Cz e s).2≠0) then(0,-1,(Cz e s).2)
  else((CN e s).1,Ja (BP e (CN e s).1) (Cz e s).1 s.Match (decide (s.N.tmod 2=1)),0):=by
 unfold Bg CN
 grind
theorem AcM {m:D.Model}{k:D.Chan}{n:Int}(h:CQ m k=true)(h0:(Dy k n).2.2=0):(Dy k n).2.1.length=(BW m k.Shape).Fields.length:=by
 unfold Dy at h0 ⊢
 cases c:(decide (n<0)||decide ((k.Queue.length:Int)<=n)) with
 | true=>rw[c]at h0;cases h0
 | false =>
  rw[cond_false]
  simp only[Bool.or_eq_false_iff,decide_eq_false_iff_not]at c
  exact D7 ((GG h).2.2 _ (An (d:=[]) (by omega)))
theorem T2 (hS:PJ)(h:B5 e)(hs:C4 e.M s)(hk:s.Kind=6):VO 89 [.agg (Ah e),.agg (Ar s)] (D5 e s):=by
 have hf:=h.ok.fit
 have hq:D5 e s=bif decide ((Bg e s).2.2≠0) then(e,(Bg e s).2.2)
   else bif decide ((Dy (BP e (Bg e s).1) (Bg e s).2.1).2.2≠0) then(e,(Dy (BP e (Bg e s).1) (Bg e s).2.1).2.2)
   else Ee (bif decide (s.N<2) then Hj e (Bg e s).1 (Dy (BP e (Bg e s).1) (Bg e s).2.1).1 else e) s (Dy (BP e (Bg e s).1) (Bg e s).2.1).2.1:=rfl
 have hfo:=AbQ (e:=e) (s:=s)
 have hal:=hs.args
 have h6:=hs.k6 hk
 generalize D5 e s=R at hq ⊢
 refine Ag Ai Aj Tryz.func89 (by kernel_rfl) rfl (WH (D1 R) e s) ⟨CN e s,F1 h.ok (hs.kA (.inr (.inr hk))),fun h1=>?_,fun h1=>⟨Cz e s,RV h.ok hs hk,fun h2=>?_,fun h2=>?_⟩⟩
 ·have h1:(CN e s).2≠0:=by simpa using h1
  rw[decide_eq_true h1,cond_true]at hfo
  rw[hfo,decide_eq_true h1,cond_true]at hq
  exact Ek (by rw[hq]) h1
 ·have h1:(CN e s).2=0:=by simpa using h1
  have h2:(Cz e s).2≠0:=by simpa using h2
  rw[decide_eq_false (fun hn=>hn h1),cond_false,decide_eq_true h2,cond_true]at hfo
  rw[hfo,decide_eq_true h2,cond_true]at hq
  exact Ek (by rw[hq]) h2
 have h1:(CN e s).2=0:=by simpa using h1
 have h2:(Cz e s).2=0:=by simpa using h2
 obtain⟨hci,n1,n2,n3⟩:=AcJ h.ok h1
 rw[decide_eq_false (fun hn=>hn h1),cond_false,decide_eq_false (fun hn=>hn h2),cond_false]at hfo
 have hfl:(Bo e (CN e s).1).length=s.Args.length:=by rw[n1];exact n3
 rw[hfo,decide_eq_false (show ¬ (0:Int)≠0 by simp),cond_false]at hq
 generalize (CN e s).1=n at hci hfl hq ⊢
 have g1:=hci.lo
 have g2:=hci.hi
 have g3:=hci.le
 have g4:=hci.q
 have hok:=Sv (Cw.1 h.ok.fits) hci
 have hN:(bif s.N==(1:Int) then true else s.N==3)=decide (s.N.tmod 2=1):=by have:=hs.n6 hk;grind
 rw[AL (by omega) (by omega),hN]
 generalize hat:Ja (BP e n) (Cz e s).1 s.Match (decide (s.N.tmod 2=1))=at' at hq
 have hfind:Al Tryz.prog 116 [] [.agg (Aw (BP e n)),Ad true (Cz e s).1,Ad true s.Match,Ac (decide (s.N.tmod 2=1))] [] (Aa at'):=by
  rw[← hat]
  exact Kq (by unfold Len;omega) (by unfold Len;omega)
 refine⟨⟨by omega,by omega⟩,at',hfind,e.S,Fi hf,⟨by omega,by omega⟩,Dy (BP e n) at',Wr (c:=BP e n) (by omega),fun h3=>?_,fun h3=>?_⟩
 ·have h3:(Dy (BP e n) at').2.2≠0:=by simpa using h3
  rw[decide_eq_true h3,cond_true]at hq
  exact Ek (by rw[hq]) h3
 have h3:(Dy (BP e n) at').2.2=0:=by simpa using h3
 rw[decide_eq_false (fun hn=>hn h3),cond_false]at hq
 have hml:=(AcM hok h3).trans hfl
 have htk:=Yx hok h3
 generalize Dy (BP e n) at'=t at hq hml htk ⊢
 refine⟨fun h4=>⟨⟨by omega,by omega⟩,?_⟩,fun h4=>?_⟩
 ·rw[h4,cond_true]at hq
  refine Nc (C:=(Hj e n t.1).S) (by show(e.S.Chans.set _ _).length=_;rw[List.length_set]) (fun i hi=>Tr hi) rfl ?_
  have hp2:B5 (Hj e n t.1):=⟨⟨Cw.2 ((Cw.1 h.ok.fits).setC htk),h.ok.may,h.ok.wf,h.ok.pid⟩,h.p0⟩
  refine Dq Ai Aj (by kernel_rfl) (Nd (D1 R) (Hj e n t.1) s t.2.1) ⟨D1 R,?_,JK⟩
  rw[hq]
  exact IZ hS hp2 hs hk hml
 ·rw[h4,cond_false]at hq
  refine Nc (C:=e.S) rfl (fun i hi=>rfl) rfl ?_
  refine Dq Ai Aj (by kernel_rfl) (Nd (D1 R) e s t.2.1) ⟨D1 R,?_,JK⟩
  rw[hq]
  exact IZ hS h hs hk hml
def QD (f:FuncId)(xs:List VV)(p:D.Env × ByteArray × Int):Prop :=
 ∃ r:D.State × ByteArray × Int,(r.2.2=p.2.2/\(p.2.2=0->r.1=p.1.S/\r.2.1=p.2.1))/\Al Tryz.prog f [] xs [] (.tup [.agg (Ae r.1),AS r.2.1,Aa r.2.2])
def Pp (e:D.Env)(s:D.Stmt)(r5:D.State × Int):D.State × ByteArray × Int :=
 if s.Kind=1 then(bif BJ e s.A then((D1 ((Bj e s.A).1,(Bj e s.A).2.2)).1,noT,(Bj e s.A).2.2) else(e.S,noT,0))
 else if s.Kind=2 then((D1 (Ei e s)).1,noT,(Ei e s).2)
 else if s.Kind=3 then(e.S,noT,FB e s)
 else if s.Kind=4 then(e.S,Ct s.Text (BI e s.Args).1,(BI e s.Args).2)
 else if s.Kind=5 then(r5.1,noT,r5.2)
 else if s.Kind=6 then((D1 (D5 e s)).1,noT,(D5 e s).2)
 else if s.Kind=9 then((D1 (Be (EK e s.N) s.A (e.S.Chans.length+1:Nat))).1,noT,(Be (EK e s.N) s.A (e.S.Chans.length+1:Nat)).2)
 else(e.S,noT,0)
theorem AdQ {r5:D.State × Int}(h5:s.Kind=5->r5.2=(ER e s w).2/\((ER e s w).2=0->r5.1=(ER e s w).1.S)) :
  (Pp e s r5).2.2=(Bn Ct e s w).2.2/\((Bn Ct e s w).2.2=0->(Pp e s r5).1=(Bn Ct e s w).1.S/\(Pp e s r5).2.1=(Bn Ct e s w).2.1):=by
 unfold Pp Bn
 by_cases k1:s.Kind=1
 ·simp only[if_pos k1]
  cases BJ e s.A with
  | true=>exact⟨rfl,fun hz=>⟨congrArg Prod.fst (Fx (p:=((Bj e s.A).1,(Bj e s.A).2.2)) hz),rfl⟩⟩
  | false=>exact⟨rfl,fun _=>⟨rfl,rfl⟩⟩
 simp only[if_neg k1]
 by_cases k2:s.Kind=2
 ·simp only[if_pos k2]
  exact⟨trivial,fun hz=>⟨congrArg Prod.fst (Fx hz),rfl⟩⟩
 simp only[if_neg k2]
 by_cases k3:s.Kind=3
 ·simp only[if_pos k3]
  exact⟨trivial,fun _=>⟨trivial,rfl⟩⟩
 simp only[if_neg k3]
 by_cases k4:s.Kind=4
 ·simp only[if_pos k4]
  refine⟨trivial,fun hz=>⟨trivial,?_⟩⟩
  rw[decide_eq_false (fun hn=>hn hz)]
  rfl
 simp only[if_neg k4]
 by_cases k9:s.Kind=9
 ·simp only[if_pos k9,if_neg (show ¬ s.Kind=5 by omega),if_neg (show ¬ s.Kind=6 by omega)]
  exact⟨trivial,fun hz=>⟨congrArg Prod.fst (Fx hz),rfl⟩⟩
 simp only[if_neg k9]
 by_cases k5:s.Kind=5
 ·simp only[if_pos k5]
  exact⟨(h5 k5).1,fun hz=>⟨(h5 k5).2 hz,rfl⟩⟩
 simp only[if_neg k5]
 by_cases k6:s.Kind=6
 ·simp only[if_pos k6]
  exact⟨trivial,fun hz=>⟨congrArg Prod.fst (Fx hz),rfl⟩⟩
 simp only[if_neg k6]
 exact⟨trivial,fun _=>⟨trivial,rfl⟩⟩
end
section
variable {e : D.Env} {s:D.Stmt} {w:Wy}
theorem Yn (h:w∈AF e)(h0:0<=w.Way)(hk:(BG e w).S.Kind≠7):(BA e (Bm e) (BG e w).S false).is=true∨∃ p∈(BA e (Bm e) (BG e w).S false).wth,w.With=p.pid:=by
 rcases FH (e:=e) with h' | ⟨er,h'⟩ | ⟨i,ws,hi,h'⟩
 ·rw[h']at h;cases h
 ·rw[h']at h
  obtain rfl:=List.mem_singleton.1 h
  exact absurd (show(0:Int)<=-1 from h0) (by decide)
 ·rw[h']at h
  obtain⟨hl,_⟩:=Fo hi
  obtain⟨j,x,a1,a2⟩:=IF h
  rw[Nat.zero_add]at a2
  obtain⟨b1,rfl⟩:=KF a1
  obtain⟨c1,c2,c3⟩:=L5 a2
  have ht:ws.getD j default=BG e w:=by
   unfold BG
   rw[c2,hl,c1]<;>rfl
  have hcan:C1 e (Bm e) ws false j=BA e (Bm e) (BG e w).S false:=by
   unfold C1
   rw[ht,decide_eq_false hk]
   rfl
  rwa [hcan]at c3
theorem AfY (h:w∈AF e)(h0:0<=w.Way)(hk:(BG e w).S.Kind=2)(hr:BJ e (BG e w).S.B=true):e.S.Procs.length<16:=by
 have hst:BA e (Bm e) (BG e w).S false=IX e:=by
  unfold BA
  rw[if_neg (by omega),if_pos hk,hr]
  rfl
 rcases Yn h h0 (by omega) with c | ⟨p,hp,_⟩
 ·rw[hst]at c
  exact of_decide_eq_true c
 ·rw[hst]at hp;cases hp
theorem Acx (h:w∈AF e)(h0:0<=w.Way)(hk:(BG e w).S.Kind=9):e.S.Chans.length<32:=by
 have hst:BA e (Bm e) (BG e w).S false=⟨decide (e.S.Chans.length<32),0,[]⟩:=by
  unfold BA
  rw[if_neg (by omega),if_neg (by omega),if_pos hk]
 rcases Yn h h0 (by omega) with c | ⟨p,hp,_⟩
 ·rw[hst]at c
  exact of_decide_eq_true c
 ·rw[hst]at hp;cases hp
theorem Zr {ev:Evl}:∀ {l out:List Int},(Iv ev out l).1.length<=out.length+l.length
 | [],_=>Nat.le_refl _
 | x::l,out=>by
  have:=Zr (ev:=ev) (l:=l) (out:=out++[(ev x).1])
  unfold Iv
  cases decide ((ev x).2≠0) with
  | true=>exact Nat.zero_le _
  | false =>
   rw[cond_false]
   simp only[List.length_append,List.length_cons,List.length_nil]at this ⊢
   omega
theorem W0 {r:D.State × ByteArray × Int}{n:Int}
  (h:Aq (fc B2 HF Tryz.f53 [] (.tup [.agg (Ae r.1),AS r.2.1,Aa r.2.2])) Ae8 (Ahp (EK e n) s)) :
  Aq (fc B2 HF Tryz.f53 [] (.tup [.agg (Ae r.1),AS r.2.1,Aa r.2.2])) Ae8 (Av [(3,.bp 0 0),(4,.bp 4 0),(6,.bp 5 0),(22,.bp 6 0)] [.box [Az true e.M.Globals,Ad true e.M.Init,AX true e.M.Shapes,Ad true e.M.Chans,AM true e.M.Procs,Aa e.M.Claim,A7 true e.M.Exprs,.ow 1 0 e.S.Globals.length,.ow 2 0 (e.S.Chans.length+1),.ow 3 0 e.S.Procs.length,Aa e.S.Last,Aa e.S.Alone,Aa e.S.Claim,Aa e.Pid,Ac e.Timeout,AR true e.Able],
   obG e.S,.arr true 0 (e.S.Chans.length+1) 2 fun i=>bif i.blt e.S.Chans.length then Aw (e.S.Chans.getD i default) else(fun i=>List.take 2 (List.drop (i*2) [Aa n,.nl])) (i - e.S.Chans.length),obP e.S,.box (Ar s),.box DU,.box (AQ e.S (.ow 1 0 e.S.Globals.length) (.ow 2 0 (e.S.Chans.length+1)) (.ow 3 0 e.S.Procs.length))]):=by
 have hC:VV.le (.sl true (e.S.Chans.length+1) 2 fun i=>bif i.blt e.S.Chans.length then Aw (e.S.Chans.getD i default) else(fun i=>List.take 2 (List.drop (i*2) [Aa n,.nl])) (i - e.S.Chans.length)) (AV true (EK e n).S.Chans):=by
  show VV.le _ (.sl true (e.S.Chans++[(⟨n,[]⟩:D.Chan)]).length 2 fun i=>Aw ((e.S.Chans++[(⟨n,[]⟩:D.Chan)]).getD i default))
  rw[List.length_append,List.length_singleton]
  refine VV.le_sl (.inl rfl) fun i hi=>?_
  cases c:i.blt e.S.Chans.length with
  | true =>
   have hlt:i<e.S.Chans.length:=Nat.le_of_ble_eq_true c
   rw[show(e.S.Chans++[(⟨n,[]⟩:D.Chan)]).getD i default=e.S.Chans.getD i default by simp[List.getD,List.getElem?_append_left hlt]]
   exact FJ _
  | false =>
   have hge:i=e.S.Chans.length:=by
    have:¬ i<e.S.Chans.length:=fun hh=>by rw[show i.blt e.S.Chans.length=true from Nat.ble_eq_true_of_le hh]at c;cases c
    omega
   subst hge
   rw[show(e.S.Chans++[(⟨n,[]⟩:D.Chan)]).getD e.S.Chans.length default=⟨n,[]⟩ by simp[List.getD],cond_false,Nat.sub_self]
   exact⟨VV.le_refl _,VV.le_nil,trivial⟩
 refine Aq.cv (Cv.pubB (hs':=[.box [Az true e.M.Globals,Ad true e.M.Init,AX true e.M.Shapes,Ad true e.M.Chans,AM true e.M.Procs,Aa e.M.Claim,A7 true e.M.Exprs,.sl true e.S.Globals.length 1 (AJ e.S.Globals),.sl true (e.S.Chans.length+1) 2 fun i=>bif i.blt e.S.Chans.length then Aw (e.S.Chans.getD i default) else(fun i=>List.take 2 (List.drop (i*2) [Aa n,.nl])) (i - e.S.Chans.length),.sl true e.S.Procs.length 4 (C9 e.S.Procs),Aa e.S.Last,Aa e.S.Alone,Aa e.S.Claim,Aa e.Pid,Ac e.Timeout,AR true e.Able],
   obG e.S,.arr true 0 (e.S.Chans.length+1) 2 fun i=>bif i.blt e.S.Chans.length then Aw (e.S.Chans.getD i default) else(fun i=>List.take 2 (List.drop (i*2) [Aa n,.nl])) (i - e.S.Chans.length),obP e.S,.box (Ar s),.box DU,
   .box [.sl true e.S.Globals.length 1 (AJ e.S.Globals),.sl true (e.S.Chans.length+1) 2 fun i=>bif i.blt e.S.Chans.length then Aw (e.S.Chans.getD i default) else(fun i=>List.take 2 (List.drop (i*2) [Aa n,.nl])) (i - e.S.Chans.length),.sl true e.S.Procs.length 4 (C9 e.S.Procs),Aa e.S.Last,Aa e.S.Alone,Aa e.S.Claim]]) (ids:=[1,2,3,1,2,3]) 8 rfl) ?_
 refine Aq.forget [3,4,6,22] rfl ?_
 refine Aq.le (AU _) (hs':=[.box (Ah (EK e n)),.box (Ar s),.box DU,.box (Ae (EK e n).S)]) ⟨Ob.le_box ?_,Ob.le_refl _,Ob.le_refl _,Ob.le_box ?_,trivial⟩ h
 ·exact⟨VV.le_refl _,VV.le_refl _,VV.le_refl _,VV.le_refl _,VV.le_refl _,VV.le_refl _,VV.le_refl _,VV.le_refl _,hC,VV.le_refl _,VV.le_refl _,VV.le_refl _,VV.le_refl _,VV.le_refl _,VV.le_refl _,VV.le_refl _,trivial⟩
 ·exact⟨VV.le_refl _,hC,VV.le_refl _,VV.le_refl _,VV.le_refl _,VV.le_refl _,trivial⟩
theorem WZ (hS:PJ)(hP:Yd)(h:B5 e)(hs:C4 e.M s)(hm:s.Kind=5->0<=w.With->Rr e s w)(h1:s.Kind=2->BJ e s.B=true->e.S.Procs.length<16)(h9:s.Kind=9->e.S.Chans.length<32) :
  QD 53 [.agg (Ah e),.agg (Ar s),.agg (Bu w)] (Bn Ct e s w):=by
 have hf:=h.ok.fit
 have hfc:=hf.c
 have hal:=hs.args
 obtain⟨i1,i2,i3⟩:=HP hs.st
 obtain⟨r5,h5,v5⟩:∃ r5:D.State × Int,(s.Kind=5->r5.2=(ER e s w).2/\((ER e s w).2=0->r5.1=(ER e s w).1.S))/\(s.Kind=5->Al Tryz.prog 88 [] [.agg (Ah e),.agg (Ar s),.agg (Bu w)] [] (.tup [.agg (Ae r5.1),Aa r5.2])):=by
  by_cases k:s.Kind=5
  ·obtain⟨r,r1,r2⟩:=TY hS h hs k (hm k)
   exact⟨r,fun _=>r1,fun _=>r2⟩
  ·exact⟨(e.S,0),fun h=>absurd h k,fun h=>absurd h k⟩
 refine⟨Pp e s r5,AdQ h5,?_⟩
 have hq:Pp e s r5=if s.Kind=1 then(bif BJ e s.A then((D1 ((Bj e s.A).1,(Bj e s.A).2.2)).1,noT,(Bj e s.A).2.2) else(e.S,noT,0))
  else if s.Kind=2 then((D1 (Ei e s)).1,noT,(Ei e s).2)
  else if s.Kind=3 then(e.S,noT,FB e s)
  else if s.Kind=4 then(e.S,Ct s.Text (BI e s.Args).1,(BI e s.Args).2)
  else if s.Kind=5 then(r5.1,noT,r5.2)
  else if s.Kind=6 then((D1 (D5 e s)).1,noT,(D5 e s).2)
  else if s.Kind=9 then((D1 (Be (EK e s.N) s.A (e.S.Chans.length+1:Nat))).1,noT,(Be (EK e s.N) s.A (e.S.Chans.length+1:Nat)).2)
  else(e.S,noT,0):=rfl
 generalize Pp e s r5=r at hq ⊢
 have ne:∀ {k:Int},(s.Kind==k)=false->s.Kind≠k:=fun hk=>by simpa using hk
 refine Ag Ai Aj Tryz.func53 (by kernel_rfl) rfl (Aa4 r e s w) ⟨BJ e s.A,JD i2,fun k=>?_,fun k1=>⟨fun k=>?_,fun k2=>⟨fun k=>?_,fun k3=>⟨fun k=>?_,fun k4=>⟨fun k=>?_,fun k5=>⟨fun k=>?_,fun k6=>⟨fun k=>?_,fun k9=>?_⟩⟩⟩⟩⟩⟩⟩
 ·have k:=eq_of_beq k
  rw[if_pos k]at hq
  refine⟨fun hr=>?_,fun hr=>?_⟩
  ·have ho:(Ao e.M s.A).Op=39:=by
    unfold BJ at hr
    simp only[Bool.and_eq_true,decide_eq_true_eq]at hr
    exact hr.2
   rw[hr,cond_true]at hq
   subst hq
   exact⟨_,OU h (hs.kA (.inl k)) ho,trivial,VV.le_refl _⟩
  ·rw[hr,cond_false]at hq
   subst hq
   exact⟨trivial,VV.le_refl _⟩
 ·have k:=eq_of_beq k
  rw[if_neg (ne k1),if_pos k]at hq
  subst hq
  exact⟨_,AaM hS h hs k (h1 k),trivial,VV.le_refl _⟩
 ·have k:=eq_of_beq k
  rw[if_neg (ne k1),if_neg (ne k2),if_pos k]at hq
  subst hq
  have hA:0<=s.A/\s.A<e.M.Exprs.length:=by
   have:=hs.st
   unfold Au at this
   rw[if_pos (.inr k)]at this
   simp only[Bool.and_eq_true]at this
   exact B1.1 this.1.1
  refine⟨Bh e s.A,Hm h.ok hA,fun hy=>⟨trivial,VV.le_eq ?_⟩,fun hy=>⟨trivial,VV.le_eq ?_⟩⟩
  ·rw[BD,ieq,ieq]at hy
   show _=VV.tup [_,_,Aa (FB e s)]
   unfold FB
   rw[hy]
   rfl
  ·rw[BD,ieq,ieq]at hy
   show _=VV.tup [_,_,Aa (FB e s)]
   unfold FB
   rw[hy]
   rfl
 ·have k:=eq_of_beq k
  rw[if_neg (ne k1),if_neg (ne k2),if_neg (ne k3),if_pos k]at hq
  subst hq
  exact⟨BI e s.Args,Mg h.ok hal i1,_,hP (fun x hx=>by
   have:=Vg h.ok.wf hx
   unfold B33 at this
   unfold I64
   omega) hs.wf.Text (by
   have:(BI e s.Args).1.length<=([]:List Int).length+s.Args.length:=Zr
   simp only[List.length_nil]at this
   omega),trivial,VV.le_refl _⟩
 ·have k:=eq_of_beq k
  rw[if_neg (ne k1),if_neg (ne k2),if_neg (ne k3),if_neg (ne k4),if_pos k]at hq
  subst hq
  exact⟨r5,v5 k,trivial,VV.le_refl _⟩
 ·have k:=eq_of_beq k
  rw[if_neg (ne k1),if_neg (ne k2),if_neg (ne k3),if_neg (ne k4),if_neg (ne k5),if_pos k]at hq
  subst hq
  exact⟨_,T2 hS h hs k,trivial,VV.le_refl _⟩
 ·have k:=eq_of_beq k
  rw[if_neg (ne k1),if_neg (ne k2),if_neg (ne k3),if_neg (ne k4),if_neg (ne k5),if_neg (ne k6),if_pos k]at hq
  obtain⟨t,n1,n2⟩:=hs.set9 k
  obtain⟨t1,t2,t3⟩:=L7 t
  have hc9:=h9 k
  have ff:=Cw.1 h.ok.fits
  have hsh:=h.ok.tab.shape s.N.toNat (by omega)
  have hp2:B5 (EK e s.N):=by
   refine⟨⟨Cw.2 ⟨ff.g,by show(e.S.Chans++[_]).length<=32;simp;omega,ff.pl,ff.l,ff.a,fun c hc=>?_,ff.p,ff.k⟩,h.ok.may,h.ok.wf,h.ok.pid⟩,h.p0⟩
   rcases List.mem_append.1 hc with hc | hc
   ·exact ff.c _ hc
   ·obtain rfl:=List.mem_singleton.1 hc
    unfold CF at hsh
    unfold CQ
    simp only[Bool.and_eq_true,decide_eq_true_eq]at hsh ⊢
    exact⟨⟨B1.2 ⟨n1,n2⟩,hsh.1.1.1.1⟩,rfl⟩
  refine⟨e.S,Fi hf,by omega,W0 (Dq Ai Aj (by kernel_rfl) (W1 r (EK e s.N) s) ?_)⟩
  have hl:(EK e s.N).S.Chans.length=e.S.Chans.length+1:=by show(e.S.Chans++[_]).length=_;simp
  rw[hl]
  refine⟨_,hS hp2 t1.1 t1.2 t2,?_⟩
  rw[hq]
  exact⟨trivial,VV.le_refl _⟩
 ·rw[if_neg (ne k1),if_neg (ne k2),if_neg (ne k3),if_neg (ne k4),if_neg (ne k5),if_neg (ne k6),if_neg (ne k9)]at hq
  subst hq
  exact⟨trivial,VV.le_refl _⟩
end
section
variable {e : D.Env} {w:Wy}
theorem Acw (_:B5 e)(hin:w∈AF e)(h0:0<=w.Way):(-1<=w.Esc/\w.Esc<(Br e).Esc.length)/\w.Way<(GZ (Br e) w.Esc).length:=by
 obtain⟨a1,a2,a3⟩:=(SI hin).2 h0
 obtain⟨_,_,a4,_⟩:=a3 w hin
 exact⟨⟨a1,a2⟩,a4⟩
theorem YX {c:Int}:leO [] []/\VV.le (.tup [.agg [.nl,.nl,.nl,Aa 0,Aa 0,Aa 0],AS ⟨#[]⟩,Aa c]) (.tup [.agg (Ae P3),AS ⟨#[]⟩,Aa c]) :=
 ⟨trivial,VV.le_tup ⟨VV.le_agg ⟨VV.le_nil,VV.le_nil,VV.le_nil,VV.le_refl _,VV.le_refl _,VV.le_refl _,trivial⟩,VV.le_refl _,VV.le_refl _,trivial⟩⟩
theorem OP (hS:PJ)(hP:Yd)(h:B5 e)(hin:w∈AF e):Al Tryz.prog 24 [] [.agg (Ah e),.agg (Bu w)] [] (.tup [.agg (Ae (goP e w).1),AS (goP e w).2.1,Aa (goP e w).2.2]):=by
 have hpid:=h.ok.pid
 have hp0:=h.p0
 have hpl:=h.ok.fit.p
 have hgoes:=Sk h hin
 have hq:goP e w=bif decide (w.Err≠0) then(P3,⟨#[]⟩,w.Err) else bif decide (w.Way<0) then(Aiq e,⟨#[]⟩,0)
   else bif decide ((Bn Ct e (BG e w).S w).2.2≠0) then(P3,⟨#[]⟩,(Bn Ct e (BG e w).S w).2.2) else(G1 e w (Bn Ct e (BG e w).S w).1.S,(Bn Ct e (BG e w).S w).2.1,0):=rfl
 have hend:w.Way<0->w.Err=0->e.Pid=(e.S.Procs.length:Int) - 1:=fun a b=>Pm hin a b
 have hdl:0<=w.Way->Nw (fun i=>i=e.Pid∨i=w.With) e (Bn Ct e (BG e w).S w).1 (Bn Ct e (BG e w).S w).2.2:=fun hw=>by
  have g:=(hgoes hw).1
  exact UW (pr:=Ct) h.ok.wf (Cw.1 h.ok.fits) g.st (fun hk hr=>Tt hin hw hk hr) (fun hv=>(g.v hv).2.2.1.t6 (g.v hv).2.2.2.1)
 have hdoes:0<=w.Way->QD 53 [.agg (Ah e),.agg (Ar (BG e w).S),.agg (Bu w)] (Bn Ct e (BG e w).S w):=fun hw =>
  WZ hS hP h (hgoes hw).1.st (fun _ hv=>(hgoes hw).2 hv) (AfY hin hw) (Acx hin hw)
 generalize goP e w=r at hq ⊢
 generalize Bn Ct e (BG e w).S w=y at hq hdoes hdl
 have mk:0<=w.Way->∃ z:D.State × ByteArray × Int,(z.2.2=y.2.2/\(y.2.2=0->z.1=y.1.S/\z.2.1=y.2.1))/\Al Tryz.prog 53 [] [.agg (Ah e),.agg (Ar (BG e w).S),.agg (Bu w)] [] (.tup [.agg (Ae z.1),AS z.2.1,Aa z.2.2]):=hdoes
 refine Ag Ai Aj Tryz.func24 (by kernel_rfl) rfl (Agp r e w) ⟨fun hb=>?_,fun hb1=>⟨fun hb=>?_,fun hw=>?_⟩⟩
 ·rw[CY]at hb
  rw[hb,cond_true]at hq
  subst hq
  exact YX
 ·rw[CY]at hb1
  rw[hb1,cond_false,hb,cond_true]at hq
  subst hq
  have hrow:VV.le (.sl true e.Pid.toNat 4 (C9 e.S.Procs)) (Ay true (e.S.Procs.take e.Pid.toNat)):=by
   show VV.le _ (.sl true (e.S.Procs.take e.Pid.toNat).length 4 fun i=>AB ((e.S.Procs.take e.Pid.toNat).getD i default))
   rw[show(e.S.Procs.take e.Pid.toNat).length=e.Pid.toNat by rw[List.length_take];omega]
   exact VV.le_sl (.inl rfl) fun j hj=>AZ (by rw[Qg hj];rfl)
  refine⟨e.S,Fi h.ok.fit,⟨hp0,by omega⟩,fun ha=>?_,fun ha=>?_⟩
  ·refine⟨trivial,VV.le_tup ⟨VV.le_agg ⟨VV.le_refl _,VV.le_refl _,hrow,VV.le_refl _,VV.le_eq ?_,VV.le_refl _,trivial⟩,VV.le_refl _,VV.le_refl _,trivial⟩⟩
   show _=Aa (bif decide (e.Pid<=e.S.Alone) then -1 else e.S.Alone)
   rw[decide_eq_true (show e.Pid<=e.S.Alone by have:=of_decide_eq_true ha;omega)]
   rfl
  ·refine⟨trivial,VV.le_tup ⟨VV.le_agg ⟨VV.le_refl _,VV.le_refl _,hrow,VV.le_refl _,VV.le_eq ?_,VV.le_refl _,trivial⟩,VV.le_refl _,VV.le_refl _,trivial⟩⟩
   show _=Aa (bif decide (e.Pid<=e.S.Alone) then -1 else e.S.Alone)
   rw[decide_eq_false (show ¬ e.Pid<=e.S.Alone by have:=of_decide_eq_false ha;omega)]
   rfl
 rw[CY]at hb1
 rw[hb1,cond_false,hw,cond_false]at hq
 have hw0:0<=w.Way:=by have:=of_decide_eq_false hw;omega
 obtain⟨a1,a2⟩:=Acw h hin hw0
 obtain⟨z,⟨z1,z2⟩,z3⟩:=mk hw0
 have d:=hdl hw0
 have hlen:=d.keep.len
 refine⟨_,Gu h (fun _=>a1.2),⟨hw0,a2⟩,z,z3,fun hb=>?_,fun hb=>?_⟩
 ·rw[CY,z1]at hb
  rw[show decide (y.2.2≠0)=true from hb,cond_true]at hq
  subst hq
  rw[z1]
  exact YX
 rw[CY,z1]at hb
 have hy0:y.2.2=0:=by simpa using hb
 rw[show decide (y.2.2≠0)=false from hb,cond_false]at hq
 obtain⟨z4,z5⟩:=z2 hy0
 have ff:=d.fits hy0
 rw[z4,z5]
 subst hq
 refine⟨y.1.S,Fi (XR h.ok.may (Cw.2 ff)),fun hv=>?_,fun hv=>?_⟩
 ·have hv:0<=w.With:=of_decide_eq_true hv
  obtain⟨m1,m2,m3,m4,m5,m6,m7⟩:=(hgoes hw0).2 hv
  obtain⟨v1,v2,_⟩:=(hgoes hw0).1.v hv
  refine⟨Bq e w.With,Ko,_,Gu m1 (fun _=>m3),⟨m4,m5⟩,⟨hv,by omega⟩,⟨hp0,by omega⟩,trivial,VV.le_tup ⟨VV.le_agg ⟨VV.le_refl _,VV.le_refl _,?_,VV.le_refl _,VV.le_refl _,VV.le_refl _,trivial⟩,VV.le_refl _,VV.le_refl _,trivial⟩⟩
  show VV.le (.sl true y.1.S.Procs.length 4 _) (Ay true (G1 e w y.1.S).Procs)
  have hg:(G1 e w y.1.S).Procs=CK (CK y.1.S.Procs w.With (DZ e w).To) e.Pid (BG e w).To:=by
   unfold G1
   rw[decide_eq_true hv]<;>rfl
  rw[hg]
  show VV.le (.sl true y.1.S.Procs.length 4 _) (.sl true (CK (CK y.1.S.Procs w.With (DZ e w).To) e.Pid (BG e w).To).length 4 _)
  rw[CJ,CJ]
  refine VV.le_sl (.inl rfl) fun j hj=>AZ ?_
  exact Ade (l:=CK y.1.S.Procs w.With (DZ e w).To) (t:=e.Pid.toNat) (to:=(BG e w).To) (by rw[CJ];omega) (by rw[CJ];exact hj) fun i hi=>Oy (l:=y.1.S.Procs) (t:=w.With.toNat) (p:={ y.1.S.Procs.getD w.With.toNat default with Loc:=(DZ e w).To }) (by rw[CJ]at hi;exact hi)
 ·have hv:¬ 0<=w.With:=of_decide_eq_false hv
  refine⟨⟨hp0,by omega⟩,trivial,VV.le_tup ⟨VV.le_agg ⟨VV.le_refl _,VV.le_refl _,?_,VV.le_refl _,VV.le_refl _,VV.le_refl _,trivial⟩,VV.le_refl _,VV.le_refl _,trivial⟩⟩
  show VV.le (.sl true y.1.S.Procs.length 4 _) (Ay true (G1 e w y.1.S).Procs)
  have hg:(G1 e w y.1.S).Procs=CK y.1.S.Procs e.Pid (BG e w).To:=by
   unfold G1
   rw[decide_eq_false hv]<;>rfl
  rw[hg]
  show VV.le (.sl true y.1.S.Procs.length 4 _) (.sl true (CK y.1.S.Procs e.Pid (BG e w).To).length 4 _)
  rw[CJ]
  refine VV.le_sl (.inl rfl) fun j hj=>AZ ?_
  exact Oy (l:=y.1.S.Procs) (t:=e.Pid.toNat) (p:={ y.1.S.Procs.getD e.Pid.toNat default with Loc:=(BG e w).To }) hj
end
section
variable {m : D.Model} {s:D.State} {e:D.Env} {w:Wy}
theorem Mi {pid:Int}(h:(Cj m s pid).2=true):0<=pid/\pid<s.Procs.length:=by
 unfold Cj at h
 grind
theorem LJ {pid:Int}{k:Nat}{t:ByteArray}:onS m pid (k+1) s t=bif !(Cj m s pid).2||!(Cj m s pid).1.Dstep then(s,t,0) else
  match(FT ⟨m,s,pid,false,[]⟩).1.find? fun w=>decide (w.With<0) with
  | none=>(D2,noT,53)
  | some w=>bif decide ((goP ⟨m,s,pid,false,[]⟩ w).2.2≠0) then(D2,noT,(goP ⟨m,s,pid,false,[]⟩ w).2.2)
   else onS m pid k (goP ⟨m,s,pid,false,[]⟩ w).1 (t++(goP ⟨m,s,pid,false,[]⟩ w).2.1):=rfl
theorem R9 {pid:Int}:∀ {k:Nat} {s:D.State} {t:ByteArray},Gs m s->((onS m pid k s t).2.2=0->Gs m (onS m pid k s t).1)/\(onS m pid k s t).2.1.size<=t.size+k*67108864
 | 0,s,t,h=>by
  have hq:onS m pid 0 s t=bif !(Cj m s pid).2||!(Cj m s pid).1.Dstep then(s,t,0) else(D2,noT,53):=rfl
  rw[hq]
  cases (!(Cj m s pid).2||!(Cj m s pid).1.Dstep) with
  | true=>grind
  | false=>exact⟨(by grind),Nat.zero_le _⟩
 | k+1,s,t,h=>by
  rw[LJ]
  cases c:(!(Cj m s pid).2||!(Cj m s pid).1.Dstep) with
  | true=>grind
  | false =>
  rw[cond_false]
  simp only[Bool.or_eq_false_iff,Bool.not_eq_false']at c
  obtain⟨hE,hx⟩:=h.pid (t:=false) (a:=[]) (Mi c.1)
  rw[Gf hx]
  cases hf:(AF ⟨m,s,pid,false,[]⟩).find? fun w=>decide (w.With<0) with
  | none=>exact⟨(by grind),Nat.zero_le _⟩
  | some w =>
   have hin:=List.mem_of_find?_eq_some hf
   show((bif decide ((goP ⟨m,s,pid,false,[]⟩ w).2.2≠0) then(D2,noT,(goP ⟨m,s,pid,false,[]⟩ w).2.2) else onS m pid k (goP ⟨m,s,pid,false,[]⟩ w).1 (t++(goP ⟨m,s,pid,false,[]⟩ w).2.1)).2.2=0->Gs m (bif decide ((goP ⟨m,s,pid,false,[]⟩ w).2.2≠0) then(D2,noT,(goP ⟨m,s,pid,false,[]⟩ w).2.2) else onS m pid k (goP ⟨m,s,pid,false,[]⟩ w).1 (t++(goP ⟨m,s,pid,false,[]⟩ w).2.1)).1) /\
    (bif decide ((goP ⟨m,s,pid,false,[]⟩ w).2.2≠0) then(D2,noT,(goP ⟨m,s,pid,false,[]⟩ w).2.2) else onS m pid k (goP ⟨m,s,pid,false,[]⟩ w).1 (t++(goP ⟨m,s,pid,false,[]⟩ w).2.1)).2.1.size<=_
   cases c2:decide ((goP ⟨m,s,pid,false,[]⟩ w).2.2≠0) with
   | true=>exact⟨fun h=>absurd h (of_decide_eq_true c2),Nat.zero_le _⟩
   | false =>
    rw[cond_false]
    have hz:(goP ⟨m,s,pid,false,[]⟩ w).2.2=0:=by simpa using c2
    have ht:=N2 hE hin
    obtain⟨a,b⟩:=R9 (k:=k) (pid:=pid) (t:=t++(goP ⟨m,s,pid,false,[]⟩ w).2.1) (Pf hE hin hz)
    grind
theorem Vb {pid:Int}(h:Gs m s):Gs m (E8 m s pid):=by
 unfold E8
 cases c:((Cj m s pid).2&&(Cj m s pid).1.Atomic) with
 | false=>exact h
 | true =>
  simp only[Bool.and_eq_true]at c
  have hp:=Mi c.1
  have f:=h.fits
  exact⟨h.wf,h.may,⟨f.g,f.cl,f.pl,f.l,⟨by show -1<=pid;omega,hp.2⟩,f.c,f.p,f.k⟩⟩
theorem Zh (h:Gs m s):Gs m { s with Alone:=-1 }:=by
 have f:=h.fits
 have:=f.a
 exact⟨h.wf,h.may,⟨f.g,f.cl,f.pl,f.l,(by grind),f.c,f.p,f.k⟩⟩
structure Ajd (m:D.Model) (n:Nx):Prop where
 gs:n.Err=0->Gs m n.State
 text:n.Text.size<=13488881664
theorem Af8 (h:B5 e)(hin:w∈AF e):Ajd e.M (Dl e w):=by
 unfold Dl
 cases c1:decide ((goP e w).2.2≠0) with
 | true=>exact⟨fun h=>absurd h (of_decide_eq_true c1),Nat.zero_le _⟩
 | false =>
 rw[cond_false]
 have hz:(goP e w).2.2=0:=by simpa using c1
 obtain⟨a,b⟩:=R9 (pid:=e.Pid) (k:=200) (t:=noT) (Pf h hin hz)
 cases c2:decide ((onS e.M e.Pid 200 (goP e w).1 noT).2.2≠0) with
 | true=>exact⟨fun h=>absurd h (of_decide_eq_true c2),Nat.zero_le _⟩
 | false =>
 rw[cond_false]
 have ht:=N2 h hin
 refine⟨fun _=>Vb (Vb (Zh (a (by simpa using c2)))),?_⟩
 show((goP e w).2.1++(onS e.M e.Pid 200 (goP e w).1 noT).2.1).size<=_
 rw[ByteArray.size_append]
 have:noT.size=0:=rfl
 omega
theorem ZQ (h:Gs m s):(Ec m s).2=0/\(Ec m s).1.length<=285230080/\∀ n∈(Ec m s).1,Ajd m n:=by
 unfold Ec
 rw[h.check]
 refine⟨rfl,?_,fun n hn=>?_⟩
 ·grind [List.length_map,Re]
 ·obtain⟨p,hp,rfl⟩:=List.mem_map.1 (show n∈(GC m s).map fun p=>Dl p.1 p.2 from hn)
  grind [AbY,Af8]
end
end Go.Proofs.YtlhajmkjfcbhnaaGreat
namespace Go.Proofs.YtlhajmkjfcbhnaaGreat
end Go.Proofs.YtlhajmkjfcbhnaaGreat
namespace Go.Proofs.YtlhajmkjfcbhnaaGreat
open Go.RowKit
section
variable {m : D.Model} {s:D.State} {e:D.Env} {w:Wy}
theorem UJ : ∀ {n i:Nat},i<n->(FT (Bq e i)).1≠[]->(Bq e i,(FT (Bq e i)).1)∈BV e n
 | n+1,i,hi,h=>by
  show _∈BV e n++EB e n
  rcases Nat.lt_succ_iff_lt_or_eq.1 hi with hi | rfl
  ·exact List.mem_append_left _ (UJ hi h)
  ·refine List.mem_append_right _ ?_
   unfold EB
   grind [decide_eq_true,List.length_pos_iff,List.mem_singleton]
theorem H7 : ∀ {l:List Gn} {most:Int},(Cf e most l).1=none->(∀ g∈l,g.1.Pid≠e.S.Alone/\DX e g<=(Cf e most l).2)/\most<=(Cf e most l).2/\((Cf e most l).2=most∨∃ g∈l,DX e g=(Cf e most l).2)
 | [],most,_=>⟨fun _ hg=>absurd hg List.not_mem_nil,Int.le_refl _,.inl rfl⟩
 | x::r,most,h=>by
  unfold Cf at h ⊢
  cases c:decide (x.1.Pid=e.S.Alone) with
  | true=>grind
  | false =>
   rw[c,cond_false]at h
   rw[cond_false]
   obtain⟨h1,h2,h3⟩:=H7 h
   grind
theorem UL (hp:∀ g∈BV e e.S.Procs.length,0<DX e g)(h:BV e e.S.Procs.length≠[]):CC e≠[]:=by
 unfold CC
 split
 ·simp
 ·next most hq =>
  obtain⟨h1,h2,h3⟩:=H7 (e:=e) (l:=BV e e.S.Procs.length) (most:=0) (congrArg Prod.fst hq)
  rw[show(Cf e 0 (BV e e.S.Procs.length)).2=most from congrArg Prod.snd hq]at h1 h2 h3
  obtain⟨g,hg⟩:=List.exists_mem_of_ne_nil _ h
  have:=hp g hg
  have:=(h1 g hg).2
  obtain⟨g',hg',h3⟩:=h3.resolve_left (by omega)
  exact List.ne_nil_of_mem (List.mem_filter.2 ⟨hg',decide_eq_true h3⟩)
theorem Ug (h:Gs m s){t:Bool}{a:List Bool}:∀ g∈BV ⟨m,s,0,t,a⟩ s.Procs.length,0<DX ⟨m,s,0,t,a⟩ g:=fun g hg=>by
 obtain⟨i,hi,rfl⟩:=Q7 hg
 have hp:=DI (h.fits.p _ (An (d:=default) hi))
 have hf:=(EJ (CB h.may).2.1 (s.Procs.getD i default).Type_.toNat (by omega)).1
 unfold Eg at hf
 simp only[Bool.and_eq_true,decide_eq_true_eq]at hf
 have hq:DX ⟨m,s,0,t,a⟩ (Bq ⟨m,s,0,t,a⟩ i,(FT (Bq ⟨m,s,0,t,a⟩ i)).1)=(s.Procs.getD i default).Prio:=rfl
 rw[hq,hp.2.2.2.2.1]
 unfold AN
 omega
end
theorem G4 {α:Type}{P:α->Prop}:([]:List α).length<=1048576/\∀ y∈([]:List α),P y:=⟨Nat.zero_le _,fun _ hy=>absurd hy List.not_mem_nil⟩
end Go.Proofs.YtlhajmkjfcbhnaaGreat
namespace Go.Proofs.YtlhajmkjfcbhnaaGreat
end Go.Proofs.YtlhajmkjfcbhnaaGreat
namespace Go.Proofs.YtlhajmkjfcbhnaaGreat
open Go.RowKit
section
variable {m : D.Model} {s:D.State}
theorem Acn : Cp m s s.Procs.length=(List.range s.Procs.length).map (Iy m s):=by
 unfold Cp
 simp_all
theorem Xc (h:Gs m s):Al Tryz.prog 16 [] [.agg (Af m),.agg (Ae s)] [] (AR true (Cp m s s.Procs.length)):=by
 have hp:=h.fits.pl
 rw[Acn]
 refine Ag Ai Aj Tryz.func16 (by kernel_rfl) rfl (Abb _ m s) ?_
 refine Aq.own 2 5 1 (EU []) rfl ?_
 change Aq _ _ (AcZ m s ((List.range 0).map (Iy m s)) ((0:Nat):Int))
 refine AH Ai Aj s.Procs.length (fun k=>AcZ m s ((List.range k).map (Iy m s)) k) (fun _=>True) (by kernel_rfl) (by kernel_rfl) trivial ?_
 intro k hk _ J next
 have hlk:((List.range k).map (Iy m s)).length=k:=by simp
 refine AY.raw (Xd _ m s _ k J) ⟨fun hlt=>?_,fun hge=>?_⟩
 ·have hlt':k<s.Procs.length:=by have:=AG hlt;omega
  refine⟨AF (Ahx m s k),(Gt (h.pid (i:=k) (t:=false) (a:=[]) ⟨by omega,by omega⟩).1).le trivial ⟨VV.le_agg ⟨VV.le_refl _,VV.le_refl _,VV.le_refl _,VV.le_refl _,VV.le_refl _,VV.le_refl _,VV.le_refl _,VV.le_refl _,VV.le_refl _,VV.le_refl _,VV.le_refl _,VV.le_refl _,VV.le_refl _,VV.le_refl _,VV.le_refl _,VV.le_nil,trivial⟩,trivial⟩ trivial (VV.le_refl _),by omega,next _ hlt' trivial (Up.mk (l':=[(2,.bp 0 0),(3,.bp 1 0),(5,.ow 2 0 ((List.range (k+1)).map (Iy m s)).length),(6,Aa ((k+1:Nat):Int))]) (hs':=[.box (Af m),.box (Ae s),.arr true 0 ((List.range (k+1)).map (Iy m s)).length 1 (EU ((List.range (k+1)).map (Iy m s)))]) ?_ ?_ rfl)⟩
  ·grind [Ak,AU]
  ·rw[List.range_succ,List.map_append,List.length_append]
   exact⟨Ob.le_refl _,Ob.le_refl _,Ob.le_arr fun i hi=>AZ (Bz (f:=fun b=>[Ac b]) (d:=false) (l:=(List.range k).map (Iy m s)) (r:=[Iy m s k]) (F:=fun i=>[Ac (((List.range k).map (Iy m s)).getD i false)]) (G:=fun i=>List.take 1 (List.drop (i*1) [Ac (Iy m s k)])) (fun _ _=>rfl) (by grind) (by simp at hi ⊢;omega)),trivial⟩
 ·obtain rfl:k=s.Procs.length:=by have:=AI hge;omega
  exact⟨trivial,VV.le_refl _⟩
end
section
variable {m : D.Model} {s:D.State} {e:D.Env} {w:Wy}
theorem OW (h:Gs m s){pid:Int}:Al Tryz.prog 45 [] [.agg (Af m),.agg (Ae s),Aa pid] [] (.tup [.agg (Bf (Cj m s pid).1),Ac (Cj m s pid).2]):=by
 have hq:Cj m s pid=bif decide (pid<0)||decide ((s.Procs.length:Int)<=pid) then(default,false) else((EA m (s.Procs.getD pid.toNat default).Type_).getD (s.Procs.getD pid.toNat default).Loc.toNat default,true):=rfl
 generalize Cj m s pid=r at hq
 refine Ag Ai Aj Tryz.func45 (by kernel_rfl) rfl (Agq r m s pid) ⟨fun hb=>?_,fun hb=>?_⟩
 ·rw[Cn]at hb
  rw[show(decide (pid<0)||decide ((s.Procs.length:Int)<=pid))=true from hb,cond_true]at hq
  subst hq
  exact⟨trivial,VV.le_tup ⟨VV.le_agg ⟨VV.le_nil,VV.le_nil,VV.le_refl _,VV.le_refl _,VV.le_refl _,VV.le_refl _,VV.le_refl _,trivial⟩,VV.le_refl _,trivial⟩⟩
 ·rw[Cn]at hb
  have hb:(decide (pid<0)||decide ((s.Procs.length:Int)<=pid))=false:=hb
  rw[hb,cond_false]at hq
  subst hq
  simp only[Bool.or_eq_false_iff,decide_eq_false_iff_not]at hb
  have hp:=DI (h.fits.p _ (An (d:=default) (show pid.toNat<s.Procs.length by omega)))
  exact⟨⟨by omega,by omega⟩,hp.1,⟨by omega,by omega⟩,hp.2.1,trivial,VV.le_refl _⟩
theorem AbV {l:List Wy}{k:Nat}(h:∀ j,j<k->¬ (l.getD j default).With<0)(hk:k<=l.length):l.find? (fun w=>decide (w.With<0))=(l.drop k).find? fun w=>decide (w.With<0):=by
 induction k generalizing l with
 | zero=>rfl
 | succ k ih =>
  cases l with
  | nil=>simp at hk
  | cons a l =>
   have h0:=h 0 (Nat.succ_pos _)
   rw[List.find?_cons,List.drop_succ_cons,← ih (fun j hj=>h (j+1) (Nat.succ_lt_succ hj)) (by simpa using hk)]
   rw[show decide (a.With<0)=false from decide_eq_false h0]
theorem Y5 {c:Int}:leO [] []/\VV.le (.tup [.agg [.nl,.nl,.nl,Aa 0,Aa 0,Aa 0],AS ⟨#[]⟩,Aa c]) (.tup [.agg (Ae D2),AS noT,Aa c]) :=
 ⟨trivial,VV.le_tup ⟨VV.le_agg ⟨VV.le_nil,VV.le_nil,VV.le_nil,VV.le_refl _,VV.le_refl _,VV.le_refl _,trivial⟩,VV.le_refl _,VV.le_refl _,trivial⟩⟩
theorem AdE (hS:PJ)(hP:Yd)(h:Gs m s){pid:Int}:Al Tryz.prog 44 [] [.agg (Af m),.agg (Ae s),Aa pid] [] (.tup [.agg (Ae (onS m pid 200 s noT).1),AS (onS m pid 200 s noT).2.1,Aa (onS m pid 200 s noT).2.2]):=by
 generalize hr:onS m pid 200 s noT=r
 refine Ag Ai Aj Tryz.func44 (by kernel_rfl) rfl (Ago r m s pid) ?_
 change Aq _ _ (AcU m s pid noT ((0:Nat):Int))
 refine AA Ai Aj (fun g st=>∃ (n:Nat) (s':D.State) (t:ByteArray),n<=200/\Gs m s'/\t.size<=n*67108864/\onS m pid (200 - n) s' t=r/\g=200 - n/\st=AcU m s' pid t n) (by kernel_rfl) (by kernel_rfl) ⟨_,Up.of ⟨0,s,noT,Nat.zero_le _,h,Nat.zero_le _,hr,rfl,rfl⟩⟩ ?_
 rintro g st ⟨n,s',t,hn,hg,ht,ho,rfl,rfl⟩
 refine AY.raw (AdG r m s' pid t n _) ⟨fun _=>⟨Cj m s' pid,OW hg,fun hb=>?_,fun hb=>?_⟩,fun hlt=>?_⟩
 ·rw[Cn]at hb
  have ho2:onS m pid (200 - n) s' t=(s',t,0):=by
   cases hk:200 - n with
   | zero=>unfold onS;rw[hb];rfl
   | succ k=>rw[LJ,hb];rfl
  rw[← ho,ho2]
  exact⟨trivial,VV.le_refl _⟩
 ·rw[Cn]at hb
  have hin:=Mi (m:=m) (s:=s') (pid:=pid) (by simp only[Bool.or_eq_false_iff,Bool.not_eq_false']at hb;exact hb.1)
  obtain⟨hE,hx⟩:=hg.pid (t:=false) (a:=[]) hin
  have hpl:=JG hE
  refine⟨AF ⟨m,s',pid,false,[]⟩,(Gt hE).le trivial ⟨VV.le_agg ⟨VV.le_refl _,VV.le_refl _,VV.le_refl _,VV.le_refl _,VV.le_refl _,VV.le_refl _,VV.le_refl _,VV.le_refl _,VV.le_refl _,VV.le_refl _,VV.le_refl _,VV.le_refl _,VV.le_refl _,VV.le_refl _,VV.le_refl _,VV.le_nil,trivial⟩,trivial⟩ trivial (VV.le_refl _),?_⟩
  refine Aq.le (AU _) (hs':=[.box (Af m),.box (Ae s'),.box DU,.box (Ah ⟨m,s',pid,false,[]⟩)]) ⟨Ob.le_refl _,Ob.le_refl _,Ob.le_refl _,Ob.le_box ⟨VV.le_refl _,VV.le_refl _,VV.le_refl _,VV.le_refl _,VV.le_refl _,VV.le_refl _,VV.le_refl _,VV.le_refl _,VV.le_refl _,VV.le_refl _,VV.le_refl _,VV.le_refl _,VV.le_refl _,VV.le_refl _,VV.le_refl _,VV.le_nil,trivial⟩,trivial⟩ ?_
  change Aq _ _ (YI m s' pid t n ⟨m,s',pid,false,[]⟩ (AF ⟨m,s',pid,false,[]⟩) ((0:Nat):Int))
  refine AA Ai Aj (fun g st=>∃ k:Nat,k<=(AF ⟨m,s',pid,false,[]⟩).length/\(∀ j,j<k->¬ ((AF ⟨m,s',pid,false,[]⟩).getD j default).With<0)/\g=(AF ⟨m,s',pid,false,[]⟩).length - k/\st=YI m s' pid t n ⟨m,s',pid,false,[]⟩ (AF ⟨m,s',pid,false,[]⟩) k) (by kernel_rfl) (by kernel_rfl) ⟨_,Up.of ⟨0,Nat.zero_le _,fun j hj=>absurd hj (Nat.not_lt_zero j),rfl,rfl⟩⟩ ?_
  rintro g st ⟨k,hk,hno,rfl,rfl⟩
  have hto:(k:Int).toNat=k:=by omega
  have hwp:=fun w (hw:w∈AF ⟨m,s',pid,false,[]⟩)=>And.intro (OP hS hP hE hw) (And.intro (Pf hE hw) (N2 hE hw))
  have hfd:=AbV hno hk
  have hway:(FT ⟨m,s',pid,false,[]⟩).1=AF ⟨m,s',pid,false,[]⟩:=by rw[Gf hx]
  refine AY.raw (AdF r m s' pid t n ⟨m,s',pid,false,[]⟩ (AF ⟨m,s',pid,false,[]⟩) k _ _) ?_
  rw[hto]
  generalize AF ⟨m,s',pid,false,[]⟩=W at hpl hk hno hwp hfd hway ⊢
  refine⟨fun hc=>?_,fun hc=>?_,fun hc=>?_⟩
  ·have:k<W.length:=by simp at hc;omega
   exact⟨by omega,by omega⟩
  ·rw[BD,Bool.and_eq_true]at hc
   have hlt:k<W.length:=by have:=AG hc.1;omega
   have hge:¬ (W.getD k default).With<0:=by have:=of_decide_eq_true hc.2;omega
   refine⟨W.length - (k+1),by omega,Up.of ⟨k+1,hlt,fun j hj=>?_,rfl,?_⟩⟩
   ·rcases Nat.lt_succ_iff_lt_or_eq.1 hj with hj | rfl
    ·exact hno j hj
    ·exact hge
   ·rw[Ak (by omega)]
  ·rw[BD,Bool.and_eq_false_iff]at hc
   have hpl2:(!(Cj m s' pid).2||!(Cj m s' pid).1.Dstep)=false:=hb
   refine⟨fun hd=>?_,fun hd=>?_⟩
   ·rw[Cn,Bool.or_eq_true]at hd
    have hz:onS m pid (200 - n) s' t=(D2,noT,53):=by
     cases hkn:200 - n with
     | zero=>unfold onS;rw[hpl2];rfl
     | succ q =>
      have hkl:k=W.length:=by
       rcases hd with hd | hd
       ·have:=eq_of_beq hd;omega
       ·have:=eq_of_beq hd;omega
      rw[LJ,hpl2,cond_false,hway,hfd,hkl,List.drop_length]
      rfl
    rw[← ho,hz]
    exact Y5
   ·rw[Cn,Bool.or_eq_false_iff]at hd
    have hkl:k<W.length:=by
     have h1:(k:Int)≠W.length:=by simpa using hd.1
     omega
    have hn2:n<200:=by
     have h1:(n:Int)≠200:=by simpa using hd.2
     omega
    have hw0:(W.getD k default).With<0:=by
     rcases hc with hc | hc
     ·have:=AI hc;omega
     ·have:=of_decide_eq_false hc;omega
    obtain⟨g1,g2,g3⟩:=hwp _ (An (d:=default) hkl)
    rw[Bb (d:=default) hkl,List.find?_cons,show decide ((W.getD k default).With<0)=true from decide_eq_true hw0]at hfd
    obtain⟨q,hq⟩:∃ q,200 - n=q+1:=⟨199 - n,by omega⟩
    rw[hq,LJ,hpl2,cond_false,hway,hfd]at ho
    have ho:(bif decide ((goP ⟨m,s',pid,false,[]⟩ (W.getD k default)).2.2≠0) then(D2,noT,(goP ⟨m,s',pid,false,[]⟩ (W.getD k default)).2.2)
     else onS m pid q (goP ⟨m,s',pid,false,[]⟩ (W.getD k default)).1 (t++(goP ⟨m,s',pid,false,[]⟩ (W.getD k default)).2.1))=r:=ho
    refine⟨⟨by omega,by omega⟩,goP ⟨m,s',pid,false,[]⟩ (W.getD k default),g1,fun he=>?_,fun he=>?_⟩
    ·rw[CY]at he
     rw[show decide ((goP ⟨m,s',pid,false,[]⟩ (W.getD k default)).2.2≠0)=true from he,cond_true]at ho
     rw[← ho]
     exact Y5
    ·rw[CY]at he
     rw[show decide ((goP ⟨m,s',pid,false,[]⟩ (W.getD k default)).2.2≠0)=false from he,cond_false]at ho
     have hz:(goP ⟨m,s',pid,false,[]⟩ (W.getD k default)).2.2=0:=by simpa using he
     have hsz:(t++(goP ⟨m,s',pid,false,[]⟩ (W.getD k default)).2.1).size<=(n+1)*67108864:=by rw[ByteArray.size_append];omega
     refine⟨by omega,200 - (n+1),by omega,Up.of ⟨n+1,_,_,hn2,g2 hz,hsz,?_,rfl,?_⟩⟩
     ·rw[show 200 - (n+1)=q by omega]
      exact ho
     ·rw[Ak (by omega)]
      rfl
 ·have:=of_decide_eq_false hlt
  omega
end
section
variable {m : D.Model} {s:D.State} {e:D.Env} {w:Wy}
theorem Uj {a:Int}{pid:Int}:Cj m { s with Alone:=a } pid=Cj m s pid:=rfl
theorem Aci {p q:Int}{b1 b2:Bool}(h1:(bif (Cj m s p).2 then(Cj m s p).1.Atomic else false)=b1)(h2:(bif (Cj m s q).2 then(Cj m s q).1.Atomic else false)=b2) :
  E8 m (E8 m s p) q={ s with Alone:=bif b2 then q else bif b1 then p else s.Alone }:=by
 rw[BD]at h1 h2
 have e1:E8 m s p={ s with Alone:=bif b1 then p else s.Alone }:=by
  unfold E8
  rw[h1]
  cases b1<;>rfl
 rw[e1]
 unfold E8
 rw[Uj,h2]
 cases b2<;>rfl
theorem QJ {c:Int}{v:Mv}:leO [] []/\VV.le (.agg [Aa v.Pid,Aa v.Esc,Aa v.Way,Aa v.With,Aa v.WithEsc,Aa v.WithWay,Aa v.Claim,.nl,.nl,.nl,Aa 0,Aa 0,Aa 0,Aa c,AS ByteArray.empty]) (.agg (CI ⟨v,D2,c,noT⟩)) :=
 ⟨trivial,VV.le_agg ⟨VV.le_refl _,VV.le_refl _,VV.le_refl _,VV.le_refl _,VV.le_refl _,VV.le_refl _,VV.le_refl _,VV.le_nil,VV.le_nil,VV.le_nil,VV.le_refl _,VV.le_refl _,VV.le_refl _,VV.le_refl _,VV.le_refl _,trivial⟩⟩
theorem Wt (hS:PJ)(hP:Yd)(h:B5 e)(hin:w∈AF e):Al Tryz.prog 19 [] [.agg (Ah e),.agg (Bu w)] [] (.agg (CI (Dl e w))):=by
 have hq:Dl e w=bif decide ((goP e w).2.2≠0) then⟨Dv e w,D2,(goP e w).2.2,noT⟩
  else bif decide ((onS e.M e.Pid 200 (goP e w).1 noT).2.2≠0) then⟨Dv e w,D2,(onS e.M e.Pid 200 (goP e w).1 noT).2.2,noT⟩
  else⟨Dv e w,E8 e.M (E8 e.M { (onS e.M e.Pid 200 (goP e w).1 noT).1 with Alone:=-1 } e.Pid) w.With,0,(goP e w).2.1++(onS e.M e.Pid 200 (goP e w).1 noT).2.1⟩:=rfl
 generalize Dl e w=r at hq ⊢
 refine Ag Ai Aj Tryz.func19 (by kernel_rfl) rfl (AaJ r e w) ⟨goP e w,OP hS hP h hin,fun h1=>?_,fun h1=>⟨fun h2=>?_,fun h2=>?_⟩⟩
 ·have h1:(goP e w).2.2=0:=eq_of_beq h1
  have hg:=Pf h hin h1
  have ht:=N2 h hin
  have ho:=R9 (pid:=e.Pid) (k:=200) (t:=noT) hg
  have hz:noT.size=0:=rfl
  rw[decide_eq_false (fun hn=>hn h1),cond_false]at hq
  refine⟨_,AdE hS hP hg,fun h2=>?_,fun h2=>?_⟩
  ·rw[CY]at h2
   rw[show decide ((onS e.M e.Pid 200 (goP e w).1 noT).2.2≠0)=true from h2,cond_true]at hq
   subst hq
   exact QJ (v:=Dv e w)
  ·rw[CY]at h2
   rw[show decide ((onS e.M e.Pid 200 (goP e w).1 noT).2.2≠0)=false from h2,cond_false]at hq
   have hz2:(onS e.M e.Pid 200 (goP e w).1 noT).2.2=0:=by simpa using h2
   generalize onS e.M e.Pid 200 (goP e w).1 noT=y at ho hq hz2 ⊢
   have hy:=Zh (ho.1 hz2)
   have hsz:(goP e w).2.1.size+y.2.1.size<=9223372036854775807:=by omega
   refine⟨_,OW hy,_,OW hy,fun h3=>⟨fun h4=>⟨by omega,?_⟩,fun h4=>⟨by omega,?_⟩⟩,fun h3=>⟨fun h4=>⟨by omega,?_⟩,fun h4=>⟨by omega,?_⟩⟩⟩
   all_goals
    rw[hq,Aci h3 h4]
    exact⟨trivial,VV.le_refl _⟩
 ·rw[CY]at h2
  rw[show decide ((goP e w).2.2≠0)=true from h2,cond_true]at hq
  subst hq
  exact QJ (v:=Dv e w)
 ·exact absurd (show(goP e w).2.2=0 by simpa using h2) (by simpa using h1)
theorem H8 {a:Int}{x:Gn}{l:List Gn}:Cf e a (x::l)=bif decide (x.1.Pid=e.S.Alone) then(some x,a) else Cf e (max a (DX e x)) l:=rfl
theorem Mn : ∀ {l r:List Gn} {a:Int},(Cf e a l).1=none->Cf e a (l++r)=Cf e (Cf e a l).2 r
 | [],_,_,_=>rfl
 | x::l,r,a,h=>by
  rw[H8]at h
  rw[List.cons_append,H8,H8]
  cases c:decide (x.1.Pid=e.S.Alone) with
  | true=>rw[c]at h;cases h
  | false =>
   rw[c,cond_false]at h
   rw[cond_false,cond_false]
   exact Mn h
theorem Pe : ∀ {n k:Nat},k<=n->∃ r,BV e n=BV e k++r
 | 0,k,h=>by
  obtain rfl:k=0:=by omega
  exact⟨[],(List.append_nil _).symm⟩
 | n+1,k,h=>by
  rcases Nat.lt_or_ge n k with hk | hk
  ·obtain rfl:k=n+1:=by omega
   exact⟨[],(List.append_nil _).symm⟩
  ·obtain⟨r,hr⟩:=Pe hk
   exact⟨r++EB e n,by show BV e n++EB e n=_;rw[hr,List.append_assoc]⟩
def Ej (l:List Gn):List Int:=l.map fun g=>g.1.Pid
theorem UM {l:List Gn}{a:Int}(h:∀ g∈l,DX e g<=a){b:Int}(hb:a<b):l.filter (fun g=>decide (DX e g=b))=[]:=List.filter_eq_nil_iff.2 fun g hg=>by
 have:=h g hg
 simp;omega
theorem AgR {L:List Gn}{g:Gn}{M:Int}:Ej ((L++[g]).filter fun x=>decide (DX e x=M))=Ej (L.filter fun x=>decide (DX e x=M))++(bif decide (DX e g=M) then[g.1.Pid] else[]):=by
 unfold Ej
 rw[List.filter_append,List.map_append,List.filter_cons]
 cases decide (DX e g=M)<;>rfl
theorem AeT : ∀ {l:List Gn} {a:Int},(Cf e a l).1=none->∀ g∈l,DX e g<=(Cf e a l).2:=fun h g hg=>((H7 h).1 g hg).2
theorem QL (h:Gs m s){l:List Bool}{t:Bool}:Al Tryz.prog 17 [] [.agg (Af m),.agg (Ae s),AR true l,Ac t] [] (Ad true (Ej (CC ⟨m,s,0,t,l⟩))):=by
 have hpl:=h.fits.pl
 generalize hr:Ej (CC ⟨m,s,0,t,l⟩)=r
 refine Ag Ai Aj Tryz.func17 (by kernel_rfl) rfl (AdI r m s l t) ?_
 refine Aq.own 4 9 1 (AJ []) rfl ?_
 change Aq _ _ (Th m s l t [] 0 ((0:Nat):Int))
 refine AA Ai Aj (fun g st=>∃ k:Nat,k<=s.Procs.length/\(Cf ⟨m,s,0,t,l⟩ 0 (BV ⟨m,s,0,t,l⟩ k)).1=none/\g=s.Procs.length - k /\
  st=Th m s l t (Ej ((BV ⟨m,s,0,t,l⟩ k).filter fun g=>decide (DX ⟨m,s,0,t,l⟩ g=(Cf ⟨m,s,0,t,l⟩ 0 (BV ⟨m,s,0,t,l⟩ k)).2))) (Cf ⟨m,s,0,t,l⟩ 0 (BV ⟨m,s,0,t,l⟩ k)).2 k) (by kernel_rfl) (by kernel_rfl) ⟨_,Up.of ⟨0,Nat.zero_le _,rfl,rfl,rfl⟩⟩ ?_
 rintro g st ⟨k,hk,hn,rfl,rfl⟩
 have hto:(k:Int).toNat=k:=by omega
 have hG:BV ⟨m,s,0,t,l⟩ (k+1)=BV ⟨m,s,0,t,l⟩ k++EB ⟨m,s,0,t,l⟩ k:=rfl
 have hpp:=Ug h (t:=t) (a:=l)
 have hmr:=H7 hn
 refine AY.raw (Aa0 r m s l t _ _ k _) ⟨fun hlt=>?_,fun hge=>?_⟩
 ·have hlt':k<s.Procs.length:=by have:=AG hlt;omega
  obtain⟨hE,hx⟩:=h.pid (i:=(k:Int)) (t:=t) (a:=l) ⟨by omega,by omega⟩
  have hway:(FT (Bq ⟨m,s,0,t,l⟩ k)).1=AF ⟨m,s,k,t,l⟩:=by
   show(FT ⟨m,s,k,t,l⟩).1=_
   rw[Gf hx]
  have hfit:(BV ⟨m,s,0,t,l⟩ k).length<=k:=Q8
  have hol:(Ej ((BV ⟨m,s,0,t,l⟩ k).filter fun g=>decide (DX ⟨m,s,0,t,l⟩ g=(Cf ⟨m,s,0,t,l⟩ 0 (BV ⟨m,s,0,t,l⟩ k)).2))).length<=16:=by
   unfold Ej
   rw[List.length_map]
   have:=List.length_filter_le (fun g=>decide (DX ⟨m,s,0,t,l⟩ g=(Cf ⟨m,s,0,t,l⟩ 0 (BV ⟨m,s,0,t,l⟩ k)).2)) (BV ⟨m,s,0,t,l⟩ k)
   omega
  refine⟨_,Gt hE,fun h1=>?_,fun h1=>?_⟩
  ·have h1:(AF ⟨m,s,k,t,l⟩).length=0:=by have:=eq_of_beq h1;omega
   have hat:EB ⟨m,s,0,t,l⟩ k=[]:=by
    unfold EB
    rw[hway,h1]
    rfl
   rw[hat,List.append_nil]at hG
   refine⟨s.Procs.length - (k+1),by omega,Up.of ⟨k+1,hlt',by rw[hG];exact hn,rfl,?_⟩⟩
   rw[Ak (by omega),hG]
  have h1:(AF ⟨m,s,k,t,l⟩).length≠0:=fun hz=>by rw[hz]at h1;cases h1
  have hat:EB ⟨m,s,0,t,l⟩ k=[(⟨m,s,k,t,l⟩,AF ⟨m,s,k,t,l⟩)]:=by
   unfold EB
   rw[hway,decide_eq_true (by omega)]
   rfl
  rw[hat]at hG
  have hprio:DX ⟨m,s,0,t,l⟩ (⟨m,s,k,t,l⟩,AF ⟨m,s,k,t,l⟩)=(s.Procs.getD k default).Prio:=rfl
  have hmore:Cf ⟨m,s,0,t,l⟩ 0 (BV ⟨m,s,0,t,l⟩ (k+1))=bif decide ((k:Int)=s.Alone) then(some (⟨m,s,k,t,l⟩,AF ⟨m,s,k,t,l⟩),(Cf ⟨m,s,0,t,l⟩ 0 (BV ⟨m,s,0,t,l⟩ k)).2) else(none,max (Cf ⟨m,s,0,t,l⟩ 0 (BV ⟨m,s,0,t,l⟩ k)).2 (s.Procs.getD k default).Prio):=by
   rw[hG,Mn hn]
   rfl
  refine⟨fun h2=>?_,fun h2=>?_⟩
  ·have h2:(k:Int)=s.Alone:=eq_of_beq h2
   rw[decide_eq_true h2,cond_true]at hmore
   obtain⟨q,hq⟩:=Pe (e:=⟨m,s,0,t,l⟩) (show k+1<=s.Procs.length from hlt')
   have hf:CC ⟨m,s,0,t,l⟩=[(⟨m,s,k,t,l⟩,AF ⟨m,s,k,t,l⟩)]:=by
    have hall:Cf ⟨m,s,0,t,l⟩ 0 (BV ⟨m,s,0,t,l⟩ s.Procs.length)=(some (⟨m,s,k,t,l⟩,AF ⟨m,s,k,t,l⟩),(Cf ⟨m,s,0,t,l⟩ 0 (BV ⟨m,s,0,t,l⟩ k)).2):=by
     rw[hq,hG,List.append_assoc,Mn hn]
     rw[List.singleton_append,H8,show decide ((⟨m,s,k,t,l⟩:D.Env).Pid=(⟨m,s,0,t,l⟩:D.Env).S.Alone)=true from decide_eq_true h2,cond_true]
    unfold CC
    show(match Cf ⟨m,s,0,t,l⟩ 0 (BV ⟨m,s,0,t,l⟩ s.Procs.length) with
     | (some g,_)=>[g]
     | (none,most)=>_)=_
    rw[hall]
   rw[← hr,hf]
   exact⟨trivial,VV.le_sl (.inl rfl) fun i hi=>by
    obtain rfl:i=0:=by omega
    exact FJ _⟩
  ·have h2:(k:Int)≠s.Alone:=fun hz=>by rw[hz]at h2;simp at h2
   rw[decide_eq_false h2,cond_false]at hmore
   have hn2:(Cf ⟨m,s,0,t,l⟩ 0 (BV ⟨m,s,0,t,l⟩ (k+1))).1=none:=by rw[hmore]
   have hm2:(Cf ⟨m,s,0,t,l⟩ 0 (BV ⟨m,s,0,t,l⟩ (k+1))).2=max (Cf ⟨m,s,0,t,l⟩ 0 (BV ⟨m,s,0,t,l⟩ k)).2 (s.Procs.getD k default).Prio:=by rw[hmore]
   have hle:=AeT hn
   generalize hM:(Cf ⟨m,s,0,t,l⟩ 0 (BV ⟨m,s,0,t,l⟩ k)).2=M at hm2 hle hol ⊢
   have happ:=fun M=>AgR (e:=⟨m,s,0,t,l⟩) (L:=BV ⟨m,s,0,t,l⟩ k) (g:=(⟨m,s,k,t,l⟩,AF ⟨m,s,k,t,l⟩)) (M:=M)
   rw[← hG]at happ
   rw[hto]
   refine⟨⟨by omega,by omega⟩,fun h3=>⟨⟨by omega,by omega⟩,⟨by omega,by omega⟩,fun _=>⟨by omega,?_⟩,fun h4=>?_⟩,fun h3=>⟨⟨by omega,by omega⟩,fun h4=>⟨by omega,?_⟩,fun h4=>?_⟩⟩
   ·have h3:=AG h3
    have hm3:(Cf ⟨m,s,0,t,l⟩ 0 (BV ⟨m,s,0,t,l⟩ (k+1))).2=(s.Procs.getD k default).Prio:=by omega
    have ho:Ej ((BV ⟨m,s,0,t,l⟩ (k+1)).filter fun g=>decide (DX ⟨m,s,0,t,l⟩ g=(s.Procs.getD k default).Prio))=[(k:Int)]:=by
     rw[happ,UM hle h3,hprio,decide_eq_true rfl]
     rfl
    refine⟨s.Procs.length - (k+1),by omega,Up.mk (hs':=[.box (Af m),.box (Ae s),.arr true 0 1 1 (AJ [(k:Int)])]) (AU _) ⟨Ob.le_refl _,Ob.le_refl _,Ob.le_arr fun i hi=>AZ ?_,trivial⟩ ⟨k+1,hlt',hn2,rfl,?_⟩⟩
    ·obtain rfl:i=0:=by omega
     rfl
    ·rw[hm3,ho,Ak (by omega)]
     rfl
   ·simp at h4
   ·have h3:=AI h3
    have h4:(s.Procs.getD k default).Prio=M:=eq_of_beq h4
    have hm3:(Cf ⟨m,s,0,t,l⟩ 0 (BV ⟨m,s,0,t,l⟩ (k+1))).2=M:=by omega
    have ho:Ej ((BV ⟨m,s,0,t,l⟩ (k+1)).filter fun g=>decide (DX ⟨m,s,0,t,l⟩ g=M))=Ej ((BV ⟨m,s,0,t,l⟩ k).filter fun g=>decide (DX ⟨m,s,0,t,l⟩ g=M))++[(k:Int)]:=by
     rw[happ,hprio,decide_eq_true h4]
     rfl
    generalize Ej ((BV ⟨m,s,0,t,l⟩ k).filter fun g=>decide (DX ⟨m,s,0,t,l⟩ g=M))=out at ho hol ⊢
    refine⟨s.Procs.length - (k+1),by omega,Up.mk (hs':=[.box (Af m),.box (Ae s),.arr true 0 (out.length+1) 1 (AJ (out++[(k:Int)]))]) (AU _) ⟨Ob.le_refl _,Ob.le_refl _,Ob.le_arr fun i hi=>AZ (Fh hi),trivial⟩ ⟨k+1,hlt',hn2,rfl,?_⟩⟩
    rw[hm3,ho,Ak (by omega),show out.length+1=(out++[(k:Int)]).length by simp]
    rfl
   ·have h3:=AI h3
    have h4:(s.Procs.getD k default).Prio≠M:=fun hz=>by rw[hz]at h4;simp at h4
    have hm3:(Cf ⟨m,s,0,t,l⟩ 0 (BV ⟨m,s,0,t,l⟩ (k+1))).2=M:=by omega
    refine⟨s.Procs.length - (k+1),by omega,Up.of ⟨k+1,hlt',hn2,rfl,?_⟩⟩
    rw[hm3,happ,hprio,decide_eq_false h4,Ak (by omega),cond_false,List.append_nil]
 ·have hk2:k=s.Procs.length:=by have:=AI hge;omega
  subst hk2
  have hf:CC ⟨m,s,0,t,l⟩=(BV ⟨m,s,0,t,l⟩ s.Procs.length).filter fun g=>decide (DX ⟨m,s,0,t,l⟩ g=(Cf ⟨m,s,0,t,l⟩ 0 (BV ⟨m,s,0,t,l⟩ s.Procs.length)).2):=by
   unfold CC
   show(match Cf ⟨m,s,0,t,l⟩ 0 (BV ⟨m,s,0,t,l⟩ s.Procs.length) with
    | (some g,_)=>[g]
    | (none,most)=>_)=_
   generalize Cf ⟨m,s,0,t,l⟩ 0 (BV ⟨m,s,0,t,l⟩ s.Procs.length)=q at hn
   obtain⟨o,a⟩:=q
   obtain rfl:o=none:=hn
   rfl
  rw[← hr,hf]
  exact⟨trivial,VV.le_refl _⟩
theorem N3 {α:Type}{l:List α}{i:Nat}{d:α}(h:i<l.length):l.getD i d=l[i]:=by
 rw[List.getD_eq_getElem?_getD,List.getElem?_eq_getElem h,Option.getD_some]
theorem O2 {l r:List Gn}:CA (l++r)=CA l++CA r:=by
 induction l with
 | nil=>rfl
 | cons a l ih=>show _++CA (l++r)=(_++CA l)++CA r;rw[ih,List.append_assoc]
theorem O1 {l:List Gn}{k:Nat}(h:k<l.length):CA (l.take (k+1))=CA (l.take k)++(l.getD k default).2.map fun w=>((l.getD k default).1,w):=by
 rw[List.take_succ_eq_append_getElem h,O2,N3 h]
 show _++(_++CA [])=_
 unfold CA
 rw[List.append_nil]
def H6 (l:List Gn)(k j:Nat):List Nx:=(CA (l.take k)).map (fun p=>Dl p.1 p.2)++((l.getD k default).2.take j).map fun w=>Dl (l.getD k default).1 w
theorem Ml {l:List Gn}{k:Nat}:H6 l k 0=(CA (l.take k)).map fun p=>Dl p.1 p.2:=by
 unfold H6
 rw[List.take_zero,List.map_nil,List.append_nil]
theorem Abr {l:List Gn}{k:Nat}(h:k<l.length):H6 l k (l.getD k default).2.length=H6 l (k+1) 0:=by
 rw[Ml,O1 h,List.map_append,List.map_map]
 unfold H6
 rw[List.take_length]
 rfl
theorem Abq {l:List Gn}{k j:Nat}(h:j<(l.getD k default).2.length):H6 l k (j+1)=H6 l k j++[Dl (l.getD k default).1 ((l.getD k default).2.getD j default)]:=by
 unfold H6
 rw[List.take_succ_eq_append_getElem h,List.map_append,N3 h,List.append_assoc]
 rfl
theorem AeM {l:List Gn}{k j:Nat}(h:k<l.length)(hj:j<=(l.getD k default).2.length):(H6 l k j).length<=(CA l).length:=by
 have h1:CA l=CA (l.take (k+1))++CA (l.drop (k+1)):=by rw[← O2,List.take_append_drop]
 rw[h1,O1 h]
 unfold H6
 simp only[List.length_append,List.length_map,List.length_take]
 omega
theorem JF {l:List Gn}:(Ej l).length=l.length:=List.length_map _
theorem Abn {l:List Gn}{k:Nat}(h:k<l.length):(Ej l).getD k 0=(l.getD k default).1.Pid:=by
 have h2:k<(Ej l).length:=by rw[JF];exact h
 rw[N3 h,N3 h2]
 exact List.getElem_map _
theorem Agl {out:List Nx}{x:Nx}{i:Nat}(hi:i<out.length+1):(bif i.blt out.length then HY out i else(fun i=>List.take 15 (List.drop (i*15) (CI x))) (i - out.length))=HY (out++[x]) i :=
 Bz (f:=CI) (d:=default) (l:=out) (r:=[x]) (F:=HY out) (G:=fun i=>List.take 15 (List.drop (i*15) (CI x))) (fun _ _=>rfl) (fun j hj=>by
  obtain rfl:j=0:=by simpa using hj
  rfl) (by simp;omega)
theorem QI (hS:PJ)(hP:Yd)(h:Gs m s){t:Bool}{L:List Gn}(hm:∀ g∈L,∃ i:Nat,i<s.Procs.length/\g=(⟨m,s,i,t,Cp m s s.Procs.length⟩,AF ⟨m,s,i,t,Cp m s s.Procs.length⟩))(hl:L.length<=17)(hn:(CA L).length<=285230080) :
  Aq (Df Tryz.prog tb B2 EE true Tryz.f7 [] (BC true ((CA L).map fun p=>Dl p.1 p.2))) [1,1,1,1,1,1,0,1,0] (YE m s (Cp m s s.Procs.length) t (Ej L) [] ((0:Nat):Int)):=by
 generalize hr:((CA L).map fun p=>Dl p.1 p.2)=r
 have hmi:∀ k,k<L.length->∃ i:Nat,i<s.Procs.length/\L.getD k default=(⟨m,s,i,t,Cp m s s.Procs.length⟩,AF ⟨m,s,i,t,Cp m s s.Procs.length⟩):=fun k hk=>hm _ (An hk)
 have hlen:=JF (l:=L)
 refine AA Ai Aj (fun g st=>∃ k:Nat,k<=L.length/\g=L.length - k/\st=YE m s (Cp m s s.Procs.length) t (Ej L) (H6 L k 0) k) (by kernel_rfl) (by kernel_rfl) ⟨_,Up.of ⟨0,Nat.zero_le _,rfl,by rw[Ml];rfl⟩⟩ ?_
 rintro g st ⟨k,hk,rfl,rfl⟩
 have hto:(k:Int).toNat=k:=by omega
 refine AY.raw (TV r m s _ t (Ej L) (H6 L k 0) k _) ⟨fun hlt=>?_,fun hge=>?_⟩
 ·have hlt':k<L.length:=by have:=AG hlt;omega
  obtain⟨i,hi,hg⟩:=hmi k hlt'
  obtain⟨hE,hx⟩:=h.pid (i:=i) (t:=t) (a:=Cp m s s.Procs.length) ⟨by omega,by omega⟩
  rw[hto,Abn hlt',hg]
  refine⟨⟨by omega,by omega⟩,_,Gt hE,?_⟩
  change Aq _ _ (AcS m s (Cp m s s.Procs.length) t (Ej L) (H6 L k 0) k ⟨m,s,i,t,Cp m s s.Procs.length⟩ (AF ⟨m,s,i,t,Cp m s s.Procs.length⟩) ((0:Nat):Int))
  have hgo:=fun w (hw:w∈AF ⟨m,s,i,t,Cp m s s.Procs.length⟩)=>Wt hS hP hE hw
  have hpl:=JG hE
  have ofl:=Abr hlt'
  have osc:=fun j=>Abq (l:=L) (k:=k) (j:=j)
  have oln:=fun j=>AeM (j:=j) hlt'
  rw[hg]at ofl osc oln
  generalize Cp m s s.Procs.length=A at *
  generalize AF ⟨m,s,i,t,A⟩=W at *
  refine AA Ai Aj (fun g st=>∃ j:Nat,j<=W.length/\g=W.length - j/\st=AcS m s A t (Ej L) (H6 L k j) k ⟨m,s,i,t,A⟩ W j) (by kernel_rfl) (by kernel_rfl) ⟨_,Up.of ⟨0,Nat.zero_le _,rfl,rfl⟩⟩ ?_
  rintro g st ⟨j,hj,rfl,rfl⟩
  have hto2:(j:Int).toNat=j:=by omega
  refine AY.raw (TU r m s A t (Ej L) (H6 L k j) k ⟨m,s,i,t,A⟩ W j _ _) ⟨fun hlt2=>?_,fun hge2=>?_⟩
  ·have hlt2':j<W.length:=by have:=AG hlt2;omega
   have hol:=oln j hj
   have osj:=osc j hlt2'
   rw[hto2]
   refine⟨⟨by omega,by omega⟩,_,hgo _ (An hlt2'),by omega,W.length - (j+1),by omega,Up.mk (hs':=[.box (Af m),.box (Ae s),.arr true 0 ((H6 L k j).length+1) 15 (HY (H6 L k j++[Dl ⟨m,s,i,t,A⟩ (W.getD j default)])),.box (Ah ⟨m,s,i,t,A⟩)]) (AU _) ⟨Ob.le_refl _,Ob.le_refl _,Ob.le_arr fun i hi=>AZ (Agl hi),Ob.le_refl _,trivial⟩ ⟨j+1,hlt2',rfl,?_⟩⟩
   rw[osj,Ak (by omega),show(H6 L k j).length+1=(H6 L k j++[Dl ⟨m,s,i,t,A⟩ (W.getD j default)]).length by simp]
   rfl
  ·obtain rfl:j=W.length:=by have:=AI hge2;omega
   rw[ofl,Ak (by omega)]
   exact⟨L.length - (k+1),by omega,Up.of ⟨k+1,hlt',rfl,rfl⟩⟩
 ·obtain rfl:k=L.length:=by have:=AI hge;omega
  rw[← hr,Ml,List.take_length]
  exact⟨trivial,VV.le_refl _⟩
theorem TT (hS:PJ)(hP:Yd)(h:Gs m s):Al Tryz.prog 7 [] [.agg (Af m),.agg (Ae s)] [] (BC true (Ec m s).1):=by
 have ha:DP m s=Cp m s s.Procs.length:=by
  unfold DP
  rw[h.check]<;>rfl
 have hst:(Ec m s).1=(CA (FS m s)).map fun p=>Dl p.1 p.2:=by
  unfold Ec
  rw[h.check]
  rfl
 have hfl:=Pg h
 have hfm:=fun g=>Ii h (g:=g)
 have hel:(CA (FS m s)).length<=285230080:=Re h
 have hfs:FS m s=bif decide (0<(CC ⟨m,s,0,false,DP m s⟩).length) then CC ⟨m,s,0,false,DP m s⟩ else CC ⟨m,s,0,true,DP m s⟩:=rfl
 rw[hst]
 rw[ha]at hfs
 have hmem:∀ t,∀ g∈CC ⟨m,s,0,t,Cp m s s.Procs.length⟩,∃ i:Nat,i<s.Procs.length/\g=(⟨m,s,i,t,Cp m s s.Procs.length⟩,AF ⟨m,s,i,t,Cp m s s.Procs.length⟩):=by
  intro t g hg
  obtain⟨i,hi,rfl⟩:=KC hg
  have hi:i<s.Procs.length:=hi
  refine⟨i,hi,?_⟩
  have:=Gf (h.pid (i:=i) (t:=t) (a:=Cp m s s.Procs.length) ⟨by omega,by omega⟩).2
  exact Prod.ext rfl (congrArg Prod.fst this)
 refine Ag Ai Aj Tryz.func7 (by kernel_rfl) rfl (Ws _ m s) ⟨_,Xc h,_,QL h,fun h1=>⟨_,QL h,?_⟩,fun h1=>?_⟩
 ·rw[JF]at h1
  have h1:(CC ⟨m,s,0,false,Cp m s s.Procs.length⟩).length=0:=by have:=eq_of_beq h1;omega
  rw[h1]at hfs
  have hfs:FS m s=CC ⟨m,s,0,true,Cp m s s.Procs.length⟩:=hfs
  rw[hfs]at hfl hel ⊢
  refine Aq.own 5 8 15 (HY []) rfl ?_
  exact QI hS hP h (hmem true) hfl hel
 ·rw[JF]at h1
  have h1:0<(CC ⟨m,s,0,false,Cp m s s.Procs.length⟩).length:=Nat.pos_of_ne_zero fun hz=>by rw[hz]at h1;cases h1
  rw[decide_eq_true h1,cond_true]at hfs
  rw[hfs]at hfl hel ⊢
  refine Aq.own 5 8 15 (HY []) rfl ?_
  exact QI hS hP h (hmem false) hfl hel
end
def ixP {α:Type}(p:α->Bool):Nat->List α->Int
 | _,[]=>-1
 | k,x::r=>bif p x then(k:Int) else ixP p (k+1) r
theorem En {α:Type}{p:α->Bool}{k:Nat}{x:α}{r:List α}:ixP p k (x::r)=bif p x then(k:Int) else ixP p (k+1) r:=rfl
theorem E4 {α:Type}{p:α->Bool}:∀ {l:List α} {k:Nat},decide (ixP p k l>=0)=l.any p
 | [],_=>rfl
 | x::r,k=>by
  unfold ixP
  rw[List.any_cons]
  cases p x with
  | true=>simp
  | false=>rw[cond_false,Bool.false_or];exact E4
theorem Aeo {g:FuncId}{l:List D.Expr}(p:D.Expr->Bool)(hl:l.length<=4611686018427387904)(h:∀ x∈l,Al Tryz.prog g [] [.agg (AE x)] [] (Ac (p x))):Al Tryz.prog 63 [] [A7 true l,.fn (.func g) []] [] (Aa (ixP p 0 l)):=by
 refine Ag Ai Aj Tryz.func63 (by kernel_rfl) rfl (AgB _ g l) ?_
 refine AA Ai Aj (fun gg st=>∃ k:Nat,k<=l.length/\gg=l.length - k/\ixP p 0 l=ixP p k (l.drop k)/\st=Hi (A7 true l) (.fn (.func g) []) l.length k) (by kernel_rfl) (by kernel_rfl) ⟨_,Up.of ⟨0,Nat.zero_le _,rfl,rfl,rfl⟩⟩ ?_
 rintro gg st ⟨k,hk,rfl,hix,rfl⟩
 have hto:(k:Int).toNat=k:=by omega
 refine AY.raw (Aep _ g l l.length k _) ⟨fun hlt=>?_,fun hge=>?_⟩
 ·have hlt':k<l.length:=by have:=AG hlt;omega
  rw[hto]
  rw[Bb (d:=default) hlt',En]at hix
  refine⟨⟨by omega,by omega⟩,p (l.getD k default),h _ (An hlt'),fun hy=>Ba ?_,fun hy=>⟨l.length - (k+1),by omega,Up.of ⟨k+1,hlt',rfl,?_,by rw[Ak (by omega)];rfl⟩⟩⟩
  ·rw[hy,cond_true]at hix;exact hix.symm
  ·rw[hy,cond_false]at hix;exact hix
 ·rw[List.drop_of_length_le (by have:=AI hge;omega)]at hix
  exact Ba hix.symm
theorem Uk {g:FuncId}{l:List D.Expr}(p:D.Expr->Bool)(hl:l.length<=4611686018427387904)(h:∀ x∈l,Al Tryz.prog g [] [.agg (AE x)] [] (Ac (p x))):Al Tryz.prog 31 [] [A7 true l,.fn (.func g) []] [] (Ac (l.any p)) :=
 Ag Ai Aj Tryz.func31 (by kernel_rfl) rfl (AgM _ g l) ⟨_,Aeo p hl h,Ap E4⟩
theorem Aeg {g:FuncId}{l:List D.Proc}(p:D.Proc->Bool)(hl:l.length<=4611686018427387904)(h:∀ x∈l,Al Tryz.prog g [] [.agg (AO x)] [] (Ac (p x))):Al Tryz.prog 65 [] [AM true l,.fn (.func g) []] [] (Aa (ixP p 0 l)):=by
 refine Ag Ai Aj Tryz.func65 (by kernel_rfl) rfl (Agx _ g l) ?_
 refine AA Ai Aj (fun gg st=>∃ k:Nat,k<=l.length/\gg=l.length - k/\ixP p 0 l=ixP p k (l.drop k)/\st=Hi (AM true l) (.fn (.func g) []) l.length k) (by kernel_rfl) (by kernel_rfl) ⟨_,Up.of ⟨0,Nat.zero_le _,rfl,rfl,rfl⟩⟩ ?_
 rintro gg st ⟨k,hk,rfl,hix,rfl⟩
 have hto:(k:Int).toNat=k:=by omega
 refine AY.raw (Aeh _ g l l.length k _) ⟨fun hlt=>?_,fun hge=>?_⟩
 ·have hlt':k<l.length:=by have:=AG hlt;omega
  rw[hto]
  rw[Bb (d:=default) hlt',En]at hix
  refine⟨⟨by omega,by omega⟩,p (l.getD k default),h _ (An hlt'),fun hy=>Ba ?_,fun hy=>⟨l.length - (k+1),by omega,Up.of ⟨k+1,hlt',rfl,?_,by rw[Ak (by omega)];rfl⟩⟩⟩
  ·rw[hy,cond_true]at hix;exact hix.symm
  ·rw[hy,cond_false]at hix;exact hix
 ·rw[List.drop_of_length_le (by have:=AI hge;omega)]at hix
  exact Ba hix.symm
theorem Aez {g:FuncId}{l:List D.Proc}(p:D.Proc->Bool)(hl:l.length<=4611686018427387904)(h:∀ x∈l,Al Tryz.prog g [] [.agg (AO x)] [] (Ac (p x))):Al Tryz.prog 36 [] [AM true l,.fn (.func g) []] [] (Ac (l.any p)) :=
 Ag Ai Aj Tryz.func36 (by kernel_rfl) rfl (AgI _ g l) ⟨_,Aeg p hl h,Ap E4⟩
theorem Aee {g:FuncId}{c:List VV}{l:List D.Proc}(p:D.Proc->Bool)(hl:l.length<=4611686018427387904)(h:∀ x∈l,Al Tryz.prog g [] [.agg (AO x),.tp c] [] (Ac (p x))):Al Tryz.prog 65 [] [AM true l,.fn (.func g) [.tp c]] [] (Aa (ixP p 0 l)):=by
 refine Ag Ai Aj Tryz.func65 (by kernel_rfl) rfl (Agw _ g c l) ?_
 refine AA Ai Aj (fun gg st=>∃ k:Nat,k<=l.length/\gg=l.length - k/\ixP p 0 l=ixP p k (l.drop k)/\st=Hi (AM true l) (.fn (.func g) [.tp c]) l.length k) (by kernel_rfl) (by kernel_rfl) ⟨_,Up.of ⟨0,Nat.zero_le _,rfl,rfl,rfl⟩⟩ ?_
 rintro gg st ⟨k,hk,rfl,hix,rfl⟩
 have hto:(k:Int).toNat=k:=by omega
 refine AY.raw (Aef _ g c l l.length k _) ⟨fun hlt=>?_,fun hge=>?_⟩
 ·have hlt':k<l.length:=by have:=AG hlt;omega
  rw[hto]
  rw[Bb (d:=default) hlt',En]at hix
  refine⟨⟨by omega,by omega⟩,p (l.getD k default),h _ (An hlt'),fun hy=>Ba ?_,fun hy=>⟨l.length - (k+1),by omega,Up.of ⟨k+1,hlt',rfl,?_,by rw[Ak (by omega)];rfl⟩⟩⟩
  ·rw[hy,cond_true]at hix;exact hix.symm
  ·rw[hy,cond_false]at hix;exact hix
 ·rw[List.drop_of_length_le (by have:=AI hge;omega)]at hix
  exact Ba hix.symm
theorem Aey {g:FuncId}{c:List VV}{l:List D.Proc}(p:D.Proc->Bool)(hl:l.length<=4611686018427387904)(h:∀ x∈l,Al Tryz.prog g [] [.agg (AO x),.tp c] [] (Ac (p x))):Al Tryz.prog 36 [] [AM true l,.fn (.func g) [.tp c]] [] (Ac (l.any p)) :=
 Ag Ai Aj Tryz.func36 (by kernel_rfl) rfl (AgH _ g c l) ⟨_,Aee p hl h,Ap E4⟩
theorem Aek {g:FuncId}{l:List D.Loc}(p:D.Loc->Bool)(hl:l.length<=4611686018427387904)(h:∀ x∈l,Al Tryz.prog g [] [.agg (Bf x)] [] (Ac (p x))):Al Tryz.prog 64 [] [Cm true l,.fn (.func g) []] [] (Aa (ixP p 0 l)):=by
 refine Ag Ai Aj Tryz.func64 (by kernel_rfl) rfl (Agz _ g l) ?_
 refine AA Ai Aj (fun gg st=>∃ k:Nat,k<=l.length/\gg=l.length - k/\ixP p 0 l=ixP p k (l.drop k)/\st=Hi (Cm true l) (.fn (.func g) []) l.length k) (by kernel_rfl) (by kernel_rfl) ⟨_,Up.of ⟨0,Nat.zero_le _,rfl,rfl,rfl⟩⟩ ?_
 rintro gg st ⟨k,hk,rfl,hix,rfl⟩
 have hto:(k:Int).toNat=k:=by omega
 refine AY.raw (Ael _ g l l.length k _) ⟨fun hlt=>?_,fun hge=>?_⟩
 ·have hlt':k<l.length:=by have:=AG hlt;omega
  rw[hto]
  rw[Bb (d:=default) hlt',En]at hix
  refine⟨⟨by omega,by omega⟩,p (l.getD k default),h _ (An hlt'),fun hy=>Ba ?_,fun hy=>⟨l.length - (k+1),by omega,Up.of ⟨k+1,hlt',rfl,?_,by rw[Ak (by omega)];rfl⟩⟩⟩
  ·rw[hy,cond_true]at hix;exact hix.symm
  ·rw[hy,cond_false]at hix;exact hix
 ·rw[List.drop_of_length_le (by have:=AI hge;omega)]at hix
  exact Ba hix.symm
theorem AeB {g:FuncId}{l:List D.Loc}(p:D.Loc->Bool)(hl:l.length<=4611686018427387904)(h:∀ x∈l,Al Tryz.prog g [] [.agg (Bf x)] [] (Ac (p x))):Al Tryz.prog 34 [] [Cm true l,.fn (.func g) []] [] (Ac (l.any p)) :=
 Ag Ai Aj Tryz.func34 (by kernel_rfl) rfl (AgK _ g l) ⟨_,Aek p hl h,Ap E4⟩
theorem Aei {g:FuncId}{c:List VV}{l:List Nx}(p:Nx->Bool)(hl:l.length<=4611686018427387904)(h:∀ x∈l,Al Tryz.prog g [] [.agg (CI x),.tp c] [] (Ac (p x))):Al Tryz.prog 51 [] [BC true l,.fn (.func g) [.tp c]] [] (Aa (ixP p 0 l)):=by
 refine Ag Ai Aj Tryz.func51 (by kernel_rfl) rfl (Agy _ g c l) ?_
 refine AA Ai Aj (fun gg st=>∃ k:Nat,k<=l.length/\gg=l.length - k/\ixP p 0 l=ixP p k (l.drop k)/\st=Hi (BC true l) (.fn (.func g) [.tp c]) l.length k) (by kernel_rfl) (by kernel_rfl) ⟨_,Up.of ⟨0,Nat.zero_le _,rfl,rfl,rfl⟩⟩ ?_
 rintro gg st ⟨k,hk,rfl,hix,rfl⟩
 have hto:(k:Int).toNat=k:=by omega
 refine AY.raw (Aej _ g c l l.length k _) ⟨fun hlt=>?_,fun hge=>?_⟩
 ·have hlt':k<l.length:=by have:=AG hlt;omega
  rw[hto]
  rw[Bb (d:=default) hlt',En]at hix
  refine⟨⟨by omega,by omega⟩,p (l.getD k default),h _ (An hlt'),fun hy=>Ba ?_,fun hy=>⟨l.length - (k+1),by omega,Up.of ⟨k+1,hlt',rfl,?_,by rw[Ak (by omega)];rfl⟩⟩⟩
  ·rw[hy,cond_true]at hix;exact hix.symm
  ·rw[hy,cond_false]at hix;exact hix
 ·rw[List.drop_of_length_le (by have:=AI hge;omega)]at hix
  exact Ba hix.symm
theorem AeA {g:FuncId}{c:List VV}{l:List Nx}(p:Nx->Bool)(hl:l.length<=4611686018427387904)(h:∀ x∈l,Al Tryz.prog g [] [.agg (CI x),.tp c] [] (Ac (p x))):Al Tryz.prog 22 [] [BC true l,.fn (.func g) [.tp c]] [] (Ac (l.any p)) :=
 Ag Ai Aj Tryz.func22 (by kernel_rfl) rfl (AgJ _ g c l) ⟨_,Aei p hl h,Ap E4⟩
theorem Aec {g:FuncId}{l:List D.Shape}(p:D.Shape->Bool)(hl:l.length<=4611686018427387904)(h:∀ x∈l,Al Tryz.prog g [] [.agg (BZ x)] [] (Ac (p x))):Al Tryz.prog 120 [] [AX true l,.fn (.func g) []] [] (Aa (ixP p 0 l)):=by
 refine Ag Ai Aj Tryz.func120 (by kernel_rfl) rfl (Agv _ g l) ?_
 refine AA Ai Aj (fun gg st=>∃ k:Nat,k<=l.length/\gg=l.length - k/\ixP p 0 l=ixP p k (l.drop k)/\st=Hi (AX true l) (.fn (.func g) []) l.length k) (by kernel_rfl) (by kernel_rfl) ⟨_,Up.of ⟨0,Nat.zero_le _,rfl,rfl,rfl⟩⟩ ?_
 rintro gg st ⟨k,hk,rfl,hix,rfl⟩
 have hto:(k:Int).toNat=k:=by omega
 refine AY.raw (Aed _ g l l.length k _) ⟨fun hlt=>?_,fun hge=>?_⟩
 ·have hlt':k<l.length:=by have:=AG hlt;omega
  rw[hto]
  rw[Bb (d:=default) hlt',En]at hix
  refine⟨⟨by omega,by omega⟩,p (l.getD k default),h _ (An hlt'),fun hy=>Ba ?_,fun hy=>⟨l.length - (k+1),by omega,Up.of ⟨k+1,hlt',rfl,?_,by rw[Ak (by omega)];rfl⟩⟩⟩
  ·rw[hy,cond_true]at hix;exact hix.symm
  ·rw[hy,cond_false]at hix;exact hix
 ·rw[List.drop_of_length_le (by have:=AI hge;omega)]at hix
  exact Ba hix.symm
theorem Aex {g:FuncId}{l:List D.Shape}(p:D.Shape->Bool)(hl:l.length<=4611686018427387904)(h:∀ x∈l,Al Tryz.prog g [] [.agg (BZ x)] [] (Ac (p x))):Al Tryz.prog 77 [] [AX true l,.fn (.func g) []] [] (Ac (l.any p)) :=
 Ag Ai Aj Tryz.func77 (by kernel_rfl) rfl (AgG _ g l) ⟨_,Aec p hl h,Ap E4⟩
theorem Ad8 {g:FuncId}{c:List VV}{l:List (List D.Trans)}(p:List D.Trans->Bool)(hl:l.length<=4611686018427387904)(h:∀ x∈l,Al Tryz.prog g [] [As true x,.tp c] [] (Ac (p x))):Al Tryz.prog 121 [] [AW false l,.fn (.func g) [.tp c]] [] (Aa (ixP p 0 l)):=by
 refine Ag Ai Aj Tryz.func121 (by kernel_rfl) rfl (Agt _ g c l) ?_
 refine AA Ai Aj (fun gg st=>∃ k:Nat,k<=l.length/\gg=l.length - k/\ixP p 0 l=ixP p k (l.drop k)/\st=Hi (AW false l) (.fn (.func g) [.tp c]) l.length k) (by kernel_rfl) (by kernel_rfl) ⟨_,Up.of ⟨0,Nat.zero_le _,rfl,rfl,rfl⟩⟩ ?_
 rintro gg st ⟨k,hk,rfl,hix,rfl⟩
 have hto:(k:Int).toNat=k:=by omega
 refine AY.raw (Ad9 _ g c l l.length k _) ⟨fun hlt=>?_,fun hge=>?_⟩
 ·have hlt':k<l.length:=by have:=AG hlt;omega
  rw[hto]
  rw[Bb (d:=[]) hlt',En]at hix
  refine⟨⟨by omega,by omega⟩,p (l.getD k []),h _ (An hlt'),fun hy=>Ba ?_,fun hy=>⟨l.length - (k+1),by omega,Up.of ⟨k+1,hlt',rfl,?_,by rw[Ak (by omega)];rfl⟩⟩⟩
  ·rw[hy,cond_true]at hix;exact hix.symm
  ·rw[hy,cond_false]at hix;exact hix
 ·rw[List.drop_of_length_le (by have:=AI hge;omega)]at hix
  exact Ba hix.symm
theorem Aev {g:FuncId}{c:List VV}{l:List (List D.Trans)}(p:List D.Trans->Bool)(hl:l.length<=4611686018427387904)(h:∀ x∈l,Al Tryz.prog g [] [As true x,.tp c] [] (Ac (p x))):Al Tryz.prog 80 [] [AW false l,.fn (.func g) [.tp c]] [] (Ac (l.any p)) :=
 Ag Ai Aj Tryz.func80 (by kernel_rfl) rfl (AgE _ g c l) ⟨_,Ad8 p hl h,Ap E4⟩
theorem Aea {g:FuncId}{l:List D.Trans}(p:D.Trans->Bool)(hl:l.length<=4611686018427387904)(h:∀ x∈l,Al Tryz.prog g [] [.agg (Gb x)] [] (Ac (p x))):Al Tryz.prog 122 [] [As true l,.fn (.func g) []] [] (Aa (ixP p 0 l)):=by
 refine Ag Ai Aj Tryz.func122 (by kernel_rfl) rfl (Agu _ g l) ?_
 refine AA Ai Aj (fun gg st=>∃ k:Nat,k<=l.length/\gg=l.length - k/\ixP p 0 l=ixP p k (l.drop k)/\st=Hi (As true l) (.fn (.func g) []) l.length k) (by kernel_rfl) (by kernel_rfl) ⟨_,Up.of ⟨0,Nat.zero_le _,rfl,rfl,rfl⟩⟩ ?_
 rintro gg st ⟨k,hk,rfl,hix,rfl⟩
 have hto:(k:Int).toNat=k:=by omega
 refine AY.raw (Aeb _ g l l.length k _) ⟨fun hlt=>?_,fun hge=>?_⟩
 ·have hlt':k<l.length:=by have:=AG hlt;omega
  rw[hto]
  rw[Bb (d:=default) hlt',En]at hix
  refine⟨⟨by omega,by omega⟩,p (l.getD k default),h _ (An hlt'),fun hy=>Ba ?_,fun hy=>⟨l.length - (k+1),by omega,Up.of ⟨k+1,hlt',rfl,?_,by rw[Ak (by omega)];rfl⟩⟩⟩
  ·rw[hy,cond_true]at hix;exact hix.symm
  ·rw[hy,cond_false]at hix;exact hix
 ·rw[List.drop_of_length_le (by have:=AI hge;omega)]at hix
  exact Ba hix.symm
theorem Aew {g:FuncId}{l:List D.Trans}(p:D.Trans->Bool)(hl:l.length<=4611686018427387904)(h:∀ x∈l,Al Tryz.prog g [] [.agg (Gb x)] [] (Ac (p x))):Al Tryz.prog 82 [] [As true l,.fn (.func g) []] [] (Ac (l.any p)) :=
 Ag Ai Aj Tryz.func82 (by kernel_rfl) rfl (AgF _ g l) ⟨_,Aea p hl h,Ap E4⟩
theorem Aeq {g:FuncId}{c:List VV}{l:List D.Dim}(p:D.Dim->Bool)(hl:l.length<=4611686018427387904)(h:∀ x∈l,Al Tryz.prog g [] [.agg (JO x),.tp c] [] (Ac (p x))):Al Tryz.prog 118 [] [BK true l,.fn (.func g) [.tp c]] [] (Aa (ixP p 0 l)):=by
 refine Ag Ai Aj Tryz.func118 (by kernel_rfl) rfl (AgC _ g c l) ?_
 refine AA Ai Aj (fun gg st=>∃ k:Nat,k<=l.length/\gg=l.length - k/\ixP p 0 l=ixP p k (l.drop k)/\st=Hi (BK true l) (.fn (.func g) [.tp c]) l.length k) (by kernel_rfl) (by kernel_rfl) ⟨_,Up.of ⟨0,Nat.zero_le _,rfl,rfl,rfl⟩⟩ ?_
 rintro gg st ⟨k,hk,rfl,hix,rfl⟩
 have hto:(k:Int).toNat=k:=by omega
 refine AY.raw (Aer _ g c l l.length k _) ⟨fun hlt=>?_,fun hge=>?_⟩
 ·have hlt':k<l.length:=by have:=AG hlt;omega
  rw[hto]
  rw[Bb (d:=default) hlt',En]at hix
  refine⟨⟨by omega,by omega⟩,p (l.getD k default),h _ (An hlt'),fun hy=>Ba ?_,fun hy=>⟨l.length - (k+1),by omega,Up.of ⟨k+1,hlt',rfl,?_,by rw[Ak (by omega)];rfl⟩⟩⟩
  ·rw[hy,cond_true]at hix;exact hix.symm
  ·rw[hy,cond_false]at hix;exact hix
 ·rw[List.drop_of_length_le (by have:=AI hge;omega)]at hix
  exact Ba hix.symm
theorem AeD {g:FuncId}{c:List VV}{l:List D.Dim}(p:D.Dim->Bool)(hl:l.length<=4611686018427387904)(h:∀ x∈l,Al Tryz.prog g [] [.agg (JO x),.tp c] [] (Ac (p x))):Al Tryz.prog 73 [] [BK true l,.fn (.func g) [.tp c]] [] (Ac (l.any p)) :=
 Ag Ai Aj Tryz.func73 (by kernel_rfl) rfl (AgN _ g c l) ⟨_,Aeq p hl h,Ap E4⟩
theorem Aem {g:FuncId}{c:List VV}{l:List Int}(p:Int->Bool)(hl:l.length<=4611686018427387904)(h:∀ x∈l,Al Tryz.prog g [] [Aa x,.tp c] [] (Ac (p x))):Al Tryz.prog 119 [] [Ad true l,.fn (.func g) [.tp c]] [] (Aa (ixP p 0 l)):=by
 refine Ag Ai Aj Tryz.func119 (by kernel_rfl) rfl (AgA _ g c l) ?_
 refine AA Ai Aj (fun gg st=>∃ k:Nat,k<=l.length/\gg=l.length - k/\ixP p 0 l=ixP p k (l.drop k)/\st=Hi (Ad true l) (.fn (.func g) [.tp c]) l.length k) (by kernel_rfl) (by kernel_rfl) ⟨_,Up.of ⟨0,Nat.zero_le _,rfl,rfl,rfl⟩⟩ ?_
 rintro gg st ⟨k,hk,rfl,hix,rfl⟩
 have hto:(k:Int).toNat=k:=by omega
 refine AY.raw (Aen _ g c l l.length k _) ⟨fun hlt=>?_,fun hge=>?_⟩
 ·have hlt':k<l.length:=by have:=AG hlt;omega
  rw[hto]
  rw[Bb (d:=0) hlt',En]at hix
  refine⟨⟨by omega,by omega⟩,p (l.getD k 0),h _ (An hlt'),fun hy=>Ba ?_,fun hy=>⟨l.length - (k+1),by omega,Up.of ⟨k+1,hlt',rfl,?_,by rw[Ak (by omega)];rfl⟩⟩⟩
  ·rw[hy,cond_true]at hix;exact hix.symm
  ·rw[hy,cond_false]at hix;exact hix
 ·rw[List.drop_of_length_le (by have:=AI hge;omega)]at hix
  exact Ba hix.symm
theorem AeC {g:FuncId}{c:List VV}{l:List Int}(p:Int->Bool)(hl:l.length<=4611686018427387904)(h:∀ x∈l,Al Tryz.prog g [] [Aa x,.tp c] [] (Ac (p x))):Al Tryz.prog 75 [] [Ad true l,.fn (.func g) [.tp c]] [] (Ac (l.any p)) :=
 Ag Ai Aj Tryz.func75 (by kernel_rfl) rfl (AgL _ g c l) ⟨_,Aem p hl h,Ap E4⟩
structure Adm (m:D.Model):Prop where
 wf:A2 m
 may:F2 m=true
 op:∀ x:Int,(Ao m x).Op≠32/\(Ao m x).Op≠36/\(Ao m x).Op≠37/\(Ao m x).Op≠38
 sc:∀ x:Int,(Ao m x).Op=2->(Ao m x).V.Scope=0∨(Ao m x).V.Scope=1
def J5 (e:D.Env)(i:Nat):Bool:=((EA e.M (e.S.Procs.getD i default).Type_).getD (e.S.Procs.getD i default).Loc.toNat default).Progress
structure Oth (i:Nat) (e f:D.Env):Prop where
 M:f.M=e.M
 pid:f.Pid=e.Pid
 t:f.Timeout=e.Timeout
 g:f.S.Globals=e.S.Globals
 c:f.S.Chans=e.S.Chans
 cl:f.S.Claim=e.S.Claim
 len:f.S.Procs.length=e.S.Procs.length
 il:i<e.S.Procs.length
 ps:∀ k:Nat,k≠i->f.S.Procs.getD k default=e.S.Procs.getD k default
 pr:J5 f i=J5 e i
 p0:0<=e.Pid
 ne:e.Pid≠i
 le:(0<=e.S.Last/\e.S.Last<16)/\-1<=e.S.Alone/\e.S.Alone<e.S.Procs.length
 lf:(0<=f.S.Last/\f.S.Last<16)/\-1<=f.S.Alone/\f.S.Alone<f.S.Procs.length
 pe:AT e.M (e.S.Procs.getD i default)=true
 pf:AT e.M (f.S.Procs.getD i default)=true
section
variable {i : Nat} {e f:D.Env} {ev:Evl}
theorem Oth.at (h:Oth i e f){k:Int}(h0:0<=k)(hk:k≠i):Ci f k=Ci e k:=h.ps k.toNat (by omega)
theorem Oth.own (h:Oth i e f):Ci f e.Pid=Ci e e.Pid:=h.at h.p0 h.ne
theorem Oth.prg (h:Oth i e f):Fk f=Fk e:=by
 have hq:∀ k,J5 f k=J5 e k:=fun k=>by
  rcases Nat.decEq k i with hk | rfl
  ·unfold J5;rw[h.ps k hk,h.M]
  ·exact h.pr
 unfold Fk
 rw[h.len]
 exact congrArg (fun g=>!(Cd e.S.Procs.length g)) (funext fun k=>congrArg Bool.not (hq k))
theorem Oth.ck (h:Oth i e f):B3 f.M f.S=B3 e.M e.S:=by
 have h1:∀ {s:D.State},(0<=s.Last/\s.Last<16)/\-1<=s.Alone/\s.Alone<s.Procs.length->GB e.M s=(Bi e.M.Globals s.Globals&&decide (s.Chans.length<=32)&&decide (s.Procs.length<=16)):=fun{s} hl=>by
  unfold GB
  simp[hl.1.1,hl.1.2,hl.2.1,hl.2.2]
 have h2:(fun k=>AT e.M (f.S.Procs.getD k default))=fun k=>AT e.M (e.S.Procs.getD k default):=funext fun k=>by
  rcases Nat.decEq k i with hk | rfl
  ·rw[h.ps k hk]
  ·rw[h.pe,h.pf]
 rw[h.M]
 unfold B3 CR
 rw[h1 h.le,h1 h.lf,h.g,h.c,h.len,h2,show Et e.M f.S=Et e.M e.S by unfold Et;rw[h.cl]]
theorem Oth.chan (h:Oth i e f)(a:Int):C7 f ev a=C7 e ev a:=by unfold C7;rw[h.c]
theorem Oth.chat (h:Oth i e f)(n:Int):BP f n=BP e n:=by unfold BP;rw[h.c]
theorem XH (h:Oth i e f){v:D.Var}(hs:v.Scope=0∨v.Scope=1):BT f ev v=BT e ev v/\((BT e ev v).1<0∨(BT e ev v).1=0/\(BT e ev v).2≠0∨(BT e ev v).1=e.Pid):=by
 unfold BT
 rcases hs with hs | hs
 ·rw[hs,h.g]
  simp only[decide_true,cond_true]
  cases decide ((e.S.Globals.length:Int)<CM v)<;>simp
 ·rw[hs,h.pid,h.own]
  simp only[show decide ((1:Int)=0)=false from rfl,decide_true,cond_true,cond_false]
  cases (decide (e.Pid<0)||decide (((Ci e e.Pid).Frame.length:Int)<CM v))<;>simp
theorem Qn (h:Oth i e f){x:D.Expr}(hs:x.Op=2->x.V.Scope=0∨x.V.Scope=1):Bl f ev x=Bl e ev x/\((Bl e ev x).2.2=0->(Bl e ev x).1<0∨(Bl e ev x).1=e.Pid):=by
 unfold Bl
 cases c:decide (x.Op≠2) with
 | true=>exact⟨rfl,fun h=>by simp at h⟩
 | false =>
  obtain⟨h1,h2⟩:=XH (ev:=ev) h (hs (by simpa using c))
  rw[h1,cond_false]
  refine⟨rfl,?_⟩
  cases c1:decide ((BT e ev x.V).2≠0) with
  | true=>intro hz;exact absurd hz (of_decide_eq_true c1)
  | false =>
   rw[cond_false]
   cases c2:decide ((Dn ev x.V.Slot x.V.Dims).2≠0) with
   | true=>intro hz;exact absurd hz (of_decide_eq_true c2)
   | false =>
    intro _
    have:=of_decide_eq_false c1
    rw[cond_false]
    show(BT e ev x.V).1<0∨(BT e ev x.V).1=e.Pid
    omega
theorem Aau (h:Oth i e f){x:D.Expr}(hs:x.Op=2->x.V.Scope=0∨x.V.Scope=1):M8 f ev x=M8 e ev x:=by
 obtain⟨h1,h2⟩:=Qn (ev:=ev) h hs
 unfold M8
 rw[h1,h.g]
 cases c1:decide ((Bl e ev x).2.2≠0) with
 | true=>rfl
 | false =>
  rw[cond_false,cond_false]
  cases c2:decide ((Bl e ev x).1<0) with
  | true=>rfl
  | false =>
   rcases h2 (by simpa using c1) with h2 | h2
   ·exact absurd h2 (of_decide_eq_false c2)
   ·rw[cond_false,cond_false,h2,h.own]
theorem Rh (h:Oth i e f){x:D.Expr}(ho:x.Op≠32/\x.Op≠36/\x.Op≠37/\x.Op≠38)(hs:x.Op=2->x.V.Scope=0∨x.V.Scope=1):CD f ev x=CD e ev x:=by
 have h1:=Aau (ev:=ev) h hs
 have h2:Ka f ev x=Ka e ev x:=by unfold Ka;rw[h.chan,h.chat,h.M]
 have h3:J6 f ev x=J6 e ev x:=by unfold J6;rw[h.chan,h.chat,h.M]
 unfold CD
 rw[h1,h2,h3,h.pid,h.len,h.prg,h.t]
 simp only[if_neg ho.1,if_neg ho.2.1,if_neg (show ¬(x.Op=37∨x.Op=38) by omega)]
theorem My (hA:Adm e.M)(h:Oth i e f):∀ n,GD f n=GD e n
 | 0=>rfl
 | n+1=>funext fun x=>by
  show CD f (GD f n) (Ao f.M x)=CD e (GD e n) (Ao e.M x)
  rw[My hA h n,h.M]
  exact Rh h (hA.op x) (hA.sc x)
theorem Yz (hA:Adm e.M)(h:Oth i e f):D0 f=D0 e:=by unfold D0;rw[My hA h,h.M]
theorem Pi (h:Oth i e f)(x:Int):B8 f x=B8 e x:=by
 unfold B8
 rw[h.ck,h.pid,h.len,h.M]
theorem Hz (hA:Adm e.M)(h:Oth i e f):Bh f=Bh e:=funext fun x=>by
 unfold Bh
 rw[Pi h,Yz hA h,h.M,Rh h (hA.op x) (hA.sc x)]
theorem JP (hA:Adm e.M)(h:Oth i e f)(x:Int):AC f x=AC e x:=by
 unfold AC
 rw[Pi h,h.M,My hA h,h.chan]
theorem SA (hA:Adm e.M)(h:Oth i e f)(l:List Int):BI f l=BI e l:=by unfold BI;rw[Hz hA h]
theorem KD (h:Oth i e f)(c:Int):Bo f c=Bo e c:=by unfold Bo;rw[h.chat,h.M]
theorem I4 (hA:Adm e.M)(h:Oth i e f)(s:D.Stmt):Ax f s=Ax e s:=by
 unfold Ax
 rw[JP hA h,KD h,SA hA h]
theorem P9 (hA:Adm e.M)(h:Oth i e f)(s:D.Stmt):Cz f s=Cz e s:=by unfold Cz;rw[Hz hA h]
theorem Q9 (hA:Adm e.M)(h:Oth i e f)(s:D.Stmt):Bg f s=Bg e s:=by
 unfold Bg
 rw[JP hA h,KD h,P9 hA h,h.chat]
theorem ZJ (hA:Adm e.M)(h:Oth i e f)(s:D.Stmt)(c:Int)(m:List Int):DE f s c m=DE e s c m:=by
 unfold DE
 rw[JP hA h,P9 hA h]
theorem S6 (hA:Adm e.M)(h:Oth i e f){mt mt':Int->List Int->List Pn}(s:D.Stmt)(self:Bool)
  (hm:self=true∨∀ c,Ny e c->∀ m,mt' c m=mt c m∨0<(BW e.M (BP e c).Shape).Room):BA f mt' s self=BA e mt s self:=by
 have hr:∀ x,BJ f x=BJ e x:=fun x=>by unfold BJ;rw[h.M]
 have hs:Fg f mt' s self=Fg e mt s self:=by
  unfold Fg
  rw[JP hA h,KD h,I4 hA h,h.chat,h.M]
  cases c0:decide ((AC e s.A).2≠0) with
  | true=>rfl
  | false =>
  cases decide ((Bo e (AC e s.A).1).length≠s.Args.length) with
  | true=>rfl
  | false =>
  cases c:decide (0<(BW e.M (BP e (AC e s.A).1).Shape).Room) with
  | true=>rfl
  | false =>
  rcases hm with rfl | hm
  ·rfl
  ·rcases hm (AC e s.A).1 (FL hA.wf (by simpa using c0)) (Ax e s).2.1 with hm | hm
   ·rw[hm]
   ·exact absurd hm (of_decide_eq_false c)
 unfold BA
 rw[hr,hr,hs,Hz hA h,Q9 hA h,h.c,show IX f=IX e by unfold IX;rw[h.len]]
theorem Zp (hA:Adm e.M)(h:Oth i e f){mt mt':Int->List Int->List Pn}(ws:List D.Trans)(self:Bool)
  (hm:self=true∨∀ c,Ny e c->∀ m,mt' c m=mt c m∨0<(BW e.M (BP e c).Shape).Room):Dj f mt' ws self=Dj e mt ws self:=by
 have h1:∀ n,Dz f mt' ws self n=Dz e mt ws self n:=fun n=>by
  induction n with
  | zero=>rfl
  | succ n ih =>
   show(Dz f mt' ws self n||(BA f mt' (ws.getD n default).S self).is)=(Dz e mt ws self n||(BA e mt (ws.getD n default).S self).is)
   rw[ih,S6 hA h _ _ hm]
 unfold Dj
 exact congrArg (fun g=>(List.range ws.length).map g) (funext fun k=>by unfold C1;rw[h1,S6 hA h _ _ hm])
theorem QC (hA:Adm e.M)(h:Oth i e f)(c:Int)(m:List Int)(j:Int):∀ (ws:List D.Trans) (k:Nat),DW f c m j k ws=DW e c m j k ws
 | [],_=>rfl
 | t::r,k=>by
  show(bif DE f t.S c m then[Pn.mk f.Pid j k] else[])++DW f c m j (k+1) r=(bif DE e t.S c m then[Pn.mk e.Pid j k] else[])++DW e c m j (k+1) r
  rw[ZJ hA h,h.pid,QC hA h c m j r]
theorem Qz (hA:Adm e.M)(h:Oth i e f)(c:Int)(m:List Int):∀ l,Gr f c m l=Gr e c m l
 | []=>rfl
 | (j,ws)::r=>by
  unfold Gr
  rw[QC hA h,Zp hA h (mt:=Hu) _ _ (.inl rfl),Qz hA h c m r]
theorem Hn (h:Oth i e f):BQ f=BQ e/\Br f=Br e:=by
 have h1:BQ f=BQ e:=by unfold BQ;rw[h.M,h.pid,h.own]
 exact⟨h1,by unfold Br;rw[h1,h.pid,h.own]⟩
theorem LD (hA:Adm e.M)(h:Oth i e f):A6 f=A6 e:=by unfold A6;rw[(Hn h).1,Hz hA h]
theorem Adx (hA:Adm e.M)(h:Oth i e f)(c:Int)(m:List Int):DO f c m=DO e c m:=by unfold DO;rw[LD hA h,(Hn h).2,Qz hA h]
theorem Oth.to (h:Oth i e f){q:Nat}(hq:q≠i):Oth i (Bq e q) (Bq f q) :=
 ⟨h.M,rfl,h.t,h.g,h.c,h.cl,h.len,h.il,h.ps,h.pr,Int.natCast_nonneg q,by show(q:Int)≠i;omega,h.le,h.lf,h.pe,h.pf⟩
def Ye (_:D.Model)(l:D.Loc):Prop:=∀ ws,(ws=l.Out∨ws∈l.Esc)->∀ t∈ws,¬ (t.S.Kind=6/\t.S.N<2)
theorem Qy (h:Ye e.M (Br e))(c:Int)(m:List Int):DO e c m=[]:=by
 have h1:∀ (j:Int) (ws:List D.Trans) (k:Nat),(∀ t∈ws,¬ (t.S.Kind=6/\t.S.N<2))->DW e c m j k ws=[]:=fun j ws=>by
  induction ws with
  | nil=>exact fun _ _=>rfl
  | cons t r ih =>
   intro k ht
   show(bif DE e t.S c m then _ else[])++DW e c m j (k+1) r=[]
   rw[ih _ fun t' h'=>ht t' (List.mem_cons_of_mem _ h')]
   have h0:DE e t.S c m=false:=by
    have:=ht t (List.mem_cons_self ..)
    unfold DE
    rw[show(decide (t.S.Kind≠6)||(decide (1<t.S.N)||decide (t.S.Args.length≠m.length)))=true by
     simp only[Bool.or_eq_true,decide_eq_true_eq]
     omega]
    rfl
   rw[h0]
   rfl
 have h2:∀ l:List (Int × List D.Trans),(∀ p∈l,∀ t∈p.2,¬ (t.S.Kind=6/\t.S.N<2))->Gr e c m l=[]:=fun l=>by
  induction l with
  | nil=>exact fun _=>rfl
  | cons p r ih =>
   intro hl
   obtain⟨j,ws⟩:=p
   unfold Gr
   rw[h1 j ws 0 (hl _ (List.mem_cons_self ..)),ih fun p hp=>hl p (List.mem_cons_of_mem _ hp)]
   cases (decide (0<([]:List Pn).length)||isSome (Dj e Hu ws true))<;>rfl
 unfold DO
 rw[h2 _ fun p hp=>h p.2 (Fo (i:=p.1) (ws:=p.2) hp).2.2.2]
 cases (!(A6 e).1||decide ((A6 e).2≠0))<;>rfl
theorem QW (hA:Adm e.M)(h:Oth i e f)(he:∀ c m,DO (Bq e i) c m=[])(hf:∀ c m,DO (Bq f i) c m=[])(c:Int)(m:List Int):Bm f c m=Bm e c m:=by
 have h1:∀ n,Da f c m n=Da e c m n:=fun n=>by
  induction n with
  | zero=>rfl
  | succ n ih =>
   show Da f c m n++(bif decide ((n:Int)≠f.Pid) then DO (Bq f n) c m else[])=Da e c m n++bif decide ((n:Int)≠e.Pid) then DO (Bq e n) c m else[]
   rw[ih,h.pid]
   rcases Nat.decEq n i with hn | rfl
   ·rw[Adx (by exact hA) (h.to hn)]
   ·rw[he,hf]
 unfold Bm
 rw[h.len,h1]
theorem QQ (hA:Adm e.M)(h:Oth i e f)(hm:∀ c,Ny e c->∀ m,Bm f c m=Bm e c m∨0<(BW e.M (BP e c).Shape).Room):∀ l,EI f l=EI e l
 | []=>rfl
 | (j,ws)::r=>by
  unfold EI
  rw[Zp hA h ws false (.inr hm),QQ hA h hm r]
theorem QN (hA:Adm e.M)(h:Oth i e f)(hm:∀ c,Ny e c->∀ m,Bm f c m=Bm e c m∨0<(BW e.M (BP e c).Shape).Room):AF f=AF e:=by
 unfold AF
 rw[h.pid,h.own,h.len,(Hn h).1,(Hn h).2,LD hA h,QQ hA h hm]
end
section
variable {i : Nat} {e f:D.Env}
theorem Oth.more (h:Oth i e f){s t:D.State}(hg:t.Globals=s.Globals)(hc:t.Chans=s.Chans)(hcl:t.Claim=s.Claim)(hl:t.Procs.length=s.Procs.length)(hn:e.S.Procs.length<=s.Procs.length)
  (hps:∀ k:Nat,k≠i->t.Procs.getD k default=s.Procs.getD k default) (ks:s.Procs.getD i default=e.S.Procs.getD i default) (kt:t.Procs.getD i default=f.S.Procs.getD i default)
  (ls:s.Last=e.S.Last/\s.Alone=e.S.Alone) (lt:t.Last=f.S.Last/\t.Alone=f.S.Alone):Oth i { e with S:=s } { f with S:=t }:=by
 have hle:=h.le
 have hlf:=h.lf
 have hlen:=h.len
 have hil:=h.il
 refine⟨h.M,h.pid,h.t,hg,hc,hcl,hl,by show i<s.Procs.length;omega,hps,?_,h.p0,h.ne,?_,?_,by show AT e.M (s.Procs.getD i default)=true;rw[ks];exact h.pe,by show AT e.M (t.Procs.getD i default)=true;rw[kt];exact h.pf⟩
 ·have:=h.pr
  unfold J5 at this ⊢
  show((EA f.M (t.Procs.getD i default).Type_).getD (t.Procs.getD i default).Loc.toNat default).Progress=((EA e.M (s.Procs.getD i default).Type_).getD (s.Procs.getD i default).Loc.toNat default).Progress
  rw[ks,kt]
  exact this
 ·show(0<=s.Last/\s.Last<16)/\-1<=s.Alone/\s.Alone<(s.Procs.length:Int)
  rw[ls.1,ls.2]
  omega
 ·show(0<=t.Last/\t.Last<16)/\-1<=t.Alone/\t.Alone<(t.Procs.length:Int)
  rw[lt.1,lt.2]
  omega
structure ID (i:Nat) (e f e' f':D.Env):Prop where
 oth:Oth i e' f'
 ke:e'.S.Procs.getD i default=e.S.Procs.getD i default
 kf:f'.S.Procs.getD i default=f.S.Procs.getD i default
 m:e'.M=e.M
theorem ID.refl (h:Oth i e f):ID i e f e f:=⟨h,rfl,rfl,rfl⟩
theorem ID.trans {e' f' e'' f'':D.Env}(h:ID i e f e' f')(k:ID i e' f' e'' f''):ID i e f e'' f'':=⟨k.oth,k.ke.trans h.ke,k.kf.trans h.kf,k.m.trans h.m⟩
theorem Adf (h:Oth i e f){who k v:Int}(hw:who<0∨who=e.Pid):ID i e f { e with S:=IA e.M e.S who k v } { f with S:=IA e.M f.S who k v }:=by
 have hne:=h.ne
 have hp0:=h.p0
 have hown:=h.own
 unfold IA
 cases c:decide (who<0) with
 | true=>exact⟨h.more (s:=AhV e.M e.S k v) (t:=AhV e.M f.S k v) (by show f.S.Globals.set _ _=_;rw[h.g];rfl) h.c h.cl h.len (Nat.le_refl _) h.ps rfl rfl ⟨rfl,rfl⟩ ⟨rfl,rfl⟩,rfl,rfl,rfl⟩
 | false =>
  obtain rfl:who=e.Pid:=by have:=of_decide_eq_false c;omega
  have hq:f.S.Procs.getD e.Pid.toNat default=e.S.Procs.getD e.Pid.toNat default:=hown
  have k1:∀ {s:D.State} {p:D.Process},(s.Procs.set e.Pid.toNat p).getD i default=s.Procs.getD i default:=fun{s p}=>by rw[CZ,if_neg (by omega)]
  refine⟨h.more (s:=Ts e.M e.S e.Pid k v) (t:=Ts e.M f.S e.Pid k v) h.g h.c h.cl ?_ ?_ (fun j hj=>?_) k1 k1 ⟨rfl,rfl⟩ ⟨rfl,rfl⟩,k1,k1,rfl⟩
  ·show(f.S.Procs.set _ _).length=(e.S.Procs.set _ _).length
   rw[List.length_set,List.length_set,h.len]
  ·show _<=(e.S.Procs.set _ _).length
   rw[List.length_set];exact Nat.le_refl _
  ·show(f.S.Procs.set _ (VJ e.M (f.S.Procs.getD e.Pid.toNat default) k v)).getD j default=(e.S.Procs.set _ _).getD j default
   rw[CZ,CZ,h.len,h.ps j hj,hq]
theorem Vy (hA:Adm e.M)(h:Oth i e f)(x v:Int):(∃ er,er≠0/\BM e x v=(default,er)/\BM f x v=(default,er)) ∨
  ∃ who k:Int,(who<0∨who=e.Pid)/\BM e x v=(IA e.M e.S who k v,0)/\BM f x v=(IA e.M f.S who k v,0):=by
 obtain⟨h1,h2⟩:=Qn (ev:=D0 e) h (hA.sc x)
 unfold BM
 rw[Pi h,Yz hA h,h.M,h1]
 cases c1:decide (B8 e x≠0) with
 | true=>exact .inl ⟨_,of_decide_eq_true c1,rfl,rfl⟩
 | false =>
  cases c2:decide ((Bl e (D0 e) (Ao e.M x)).2.2≠0) with
  | true=>exact .inl ⟨_,of_decide_eq_true c2,rfl,rfl⟩
  | false=>exact .inr ⟨_,_,h2 (by simpa using c2),rfl,rfl⟩
theorem YR (hA:Adm e.M)(h:Oth i e f)(x v:Int):(BM f x v).2=(BM e x v).2/\ID i e f (stE e x v) (stE f x v):=by
 unfold stE
 rcases Vy hA h x v with⟨er,h0,h1,h2⟩ | ⟨who,k,hw,h1,h2⟩
 ·rw[h1,h2,decide_eq_false h0]
  exact⟨rfl,.refl h⟩
 ·rw[h1,h2]
  exact⟨rfl,Adf h hw⟩
theorem Ki (hA:Adm e.M)(h:Oth i e f)(x v:Int):(Be f x v).2=(Be e x v).2/\ID i e f (Be e x v).1 (Be f x v).1:=YR hA h x v
theorem Hx (m mt:List Int):∀ (l:List Int) (k:Nat) {e f:D.Env},Adm e.M->Oth i e f->(Dw m mt k l f).2=(Dw m mt k l e).2/\ID i e f (Dw m mt k l e).1 (Dw m mt k l f).1
 | [],_,e,f,_,h=>⟨rfl,.refl h⟩
 | x::r,k,e,f,hA,h=>by
  obtain⟨h1,h2⟩:=YR hA h x (m.getD k 0)
  unfold Dw
  cases decide (mt.getD k 0≠0) with
  | true=>exact Hx m mt r (k+1) hA h
  | false =>
   rw[h1]
   cases decide ((BM e x (m.getD k 0)).2≠0) with
   | true=>exact⟨rfl,.refl h⟩
   | false =>
    obtain⟨g1,g2⟩:=Hx m mt r (k+1) (by rw[h2.m];exact hA) h2.oth
    exact⟨g1,h2.trans g2⟩
theorem Ahi (h:Oth i e f)(p:D.Process):ID i e f (FW e p) (FW f p):=by
 have hil:=h.il
 have hlen:=h.len
 have k1:∀ {l:List D.Process},i<l.length->(l++[p]).getD i default=l.getD i default:=fun{l} hl=>by simp[List.getD,List.getElem?_append_left hl]
 refine⟨h.more (s:=(FW e p).S) (t:=(FW f p).S) h.g h.c h.cl ?_ ?_ (fun j hj=>?_) (k1 hil) (k1 (by omega)) ⟨rfl,rfl⟩ ⟨rfl,rfl⟩,k1 hil,k1 (by omega),rfl⟩
 ·show(f.S.Procs++[p]).length=(e.S.Procs++[p]).length
  simp[hlen]
 ·show _<=(e.S.Procs++[p]).length
  simp
 ·show(f.S.Procs++[p]).getD j default=(e.S.Procs++[p]).getD j default
  have:=h.ps j hj
  simp only[List.getD]at this ⊢
  rw[List.getElem?_append,List.getElem?_append,hlen]
  split
  ·exact this
  ·rfl
theorem Rn (hA:Adm e.M)(h:Oth i e f)(x:Int):(Bj f x).2=(Bj e x).2/\ID i e f (Bj e x).1 (Bj f x).1:=by
 unfold Bj
 rw[h.M,SA hA h,h.len]
 cases decide ((BI e (Ao e.M x).Args).2≠0) with
 | true=>exact⟨rfl,.refl h⟩
 | false =>
  cases decide ((IV e.M (Ao e.M x).N (BI e (Ao e.M x).Args).1).2≠0) with
  | true=>exact⟨rfl,.refl h⟩
  | false=>exact⟨rfl,Ahi h _⟩
theorem Mc {α β:Type}{a b:α}{x:β}:(a,x).2=(b,x).2:=rfl
theorem Adb (hA:Adm e.M)(h:Oth i e f)(s:D.Stmt):(Ei f s).2=(Ei e s).2/\ID i e f (Ei e s).1 (Ei f s).1:=by
 obtain⟨b1,b2⟩:=Rn hA h s.B
 unfold Ei
 rw[show BJ f s.B=BJ e s.B by unfold BJ;rw[h.M],Hz hA h,b1]
 cases BJ e s.B with
 | true =>
  cases decide ((Bj e s.B).2.2≠0) with
  | true=>exact⟨Mc,b2⟩
  | false =>
   obtain⟨g1,g2⟩:=Ki (by rw[b2.m];exact hA) b2.oth s.A (Bj e s.B).2.1
   exact⟨g1,b2.trans g2⟩
 | false =>
  cases decide ((Bh e s.B).2≠0) with
  | true=>exact⟨Mc,.refl h⟩
  | false=>exact Ki hA h _ _
theorem Qs (h:Oth i e f)(c:Int)(k:D.Chan):ID i e f (Hj e c k) (Hj f c k) :=
 ⟨h.more (s:=(Hj e c k).S) (t:=(Hj f c k).S) h.g (by show f.S.Chans.set _ _=_;rw[h.c];rfl) h.cl h.len (Nat.le_refl _) h.ps rfl rfl ⟨rfl,rfl⟩ ⟨rfl,rfl⟩,rfl,rfl,rfl⟩
theorem Aar (hA:Adm e.M)(h:Oth i e f)(s:D.Stmt):(D5 f s).2=(D5 e s).2/\ID i e f (D5 e s).1 (D5 f s).1:=by
 unfold D5
 rw[Q9 hA h,h.chat]
 cases decide ((Bg e s).2.2≠0) with
 | true=>exact⟨Mc,.refl h⟩
 | false =>
  generalize Dy (BP e (Bg e s).1) (Bg e s).2.1=t
  cases decide (t.2.2≠0) with
  | true=>exact⟨Mc,.refl h⟩
  | false =>
   cases decide (s.N<2) with
   | true =>
    have g:=Qs h (Bg e s).1 t.1
    obtain⟨g1,g2⟩:=Hx t.2.1 s.Match s.Args 0 (by rw[g.m];exact hA) g.oth
    exact⟨g1,g.trans g2⟩
   | false=>exact Hx t.2.1 s.Match s.Args 0 hA h
theorem SM (h:Oth i e f)(w:Wy):BG f w=BG e w:=by unfold BG;rw[(Hn h).2]
theorem SL (h:Oth i e f){w:Wy}(h0:0<=w.With)(hw:w.With≠i):DZ f w=DZ e w:=by
 have:=h.to (q:=w.With.toNat) (by omega)
 rw[show((w.With.toNat:Nat):Int)=w.With by omega]at this
 unfold DZ
 rw[(Hn this).2]
theorem Adg (hA:Adm e.M)(h:Oth i e f)(s:D.Stmt){w:Wy}(hw:w.With≠i):(ER f s w).2=(ER e s w).2/\ID i e f (ER e s w).1 (ER f s w).1:=by
 unfold ER
 rw[I4 hA h]
 cases decide ((Ax e s).2.2≠0) with
 | true=>exact⟨Mc,.refl h⟩
 | false =>
  cases c:decide (0<=w.With) with
  | true =>
   have h0:=of_decide_eq_true c
   have hq:=h.to (q:=w.With.toNat) (by omega)
   rw[show((w.With.toNat:Nat):Int)=w.With by omega]at hq
   rw[SL h h0 hw]
   obtain⟨g1,g2⟩:=Hx (Ax e s).2.1 (DZ e w).S.Match (DZ e w).S.Args 0 (by exact hA) hq
   have o:=g2.oth
   have hl:=G0 (Ax e s).2.1 (DZ e w).S.Match (DZ e w).S.Args 0 (Bq e w.With)
   refine⟨g1,⟨⟨h.M,h.pid,h.t,o.g,o.c,o.cl,o.len,o.il,o.ps,?_,h.p0,h.ne,o.le,o.lf,?_,?_⟩,g2.ke,g2.kf,rfl⟩⟩
   ·have:=h.pr
    have k1:=g2.ke
    have k2:=g2.kf
    unfold J5 at this ⊢
    show((EA f.M ((Dw (Ax e s).2.1 (DZ e w).S.Match 0 (DZ e w).S.Args (Bq f w.With)).1.S.Procs.getD i default).Type_).getD ((Dw (Ax e s).2.1 (DZ e w).S.Match 0 (DZ e w).S.Args (Bq f w.With)).1.S.Procs.getD i default).Loc.toNat default).Progress=((EA e.M ((Dw (Ax e s).2.1 (DZ e w).S.Match 0 (DZ e w).S.Args (Bq e w.With)).1.S.Procs.getD i default).Type_).getD ((Dw (Ax e s).2.1 (DZ e w).S.Match 0 (DZ e w).S.Args (Bq e w.With)).1.S.Procs.getD i default).Loc.toNat default).Progress
    rw[k1,k2]
    exact this
   ·exact(congrArg (fun p=>AT e.M p) g2.ke).trans h.pe
   ·exact(congrArg (fun p=>AT e.M p) g2.kf).trans h.pf
  | false =>
   unfold Qt
   rw[I4 hA h,h.chat,h.M]
   exact⟨Mc,Qs h _ _⟩
theorem Acm (h:Oth i e f)(n:Int):ID i e f (EK e n) (EK f n) :=
 ⟨h.more (s:=(EK e n).S) (t:=(EK f n).S) h.g (by show f.S.Chans++_=_;rw[h.c];rfl) h.cl h.len (Nat.le_refl _) h.ps rfl rfl ⟨rfl,rfl⟩ ⟨rfl,rfl⟩,rfl,rfl,rfl⟩
theorem Afy (hA:Adm e.M)(h:Oth i e f){pr:ByteArray->List Int->ByteArray}(s:D.Stmt){w:Wy}(hw:w.With≠i):(Bn pr f s w).2=(Bn pr e s w).2/\ID i e f (Bn pr e s w).1 (Bn pr f s w).1:=by
 obtain⟨a1,a2⟩:=Rn hA h s.A
 obtain⟨b1,b2⟩:=Adb hA h s
 obtain⟨c1,c2⟩:=Aar hA h s
 obtain⟨d1,d2⟩:=Adg hA h s hw
 have e0:=Acm h s.N
 obtain⟨e1,e2⟩:=Ki (by rw[e0.m];exact hA) e0.oth s.A (e.S.Chans.length+1:Nat)
 unfold Bn
 rw[show BJ f s.A=BJ e s.A by unfold BJ;rw[h.M],a1,b1,c1,d1,show FB f s=FB e s by unfold FB;rw[Hz hA h],SA hA h,h.c,e1]
 by_cases n1:s.Kind=1
 ·simp only[if_pos n1]
  cases BJ e s.A with
  | true=>exact⟨rfl,a2⟩
  | false=>exact⟨rfl,.refl h⟩
 simp only[if_neg n1]
 by_cases n2:s.Kind=2
 ·simp only[if_pos n2];exact⟨trivial,b2⟩
 simp only[if_neg n2]
 by_cases n3:s.Kind=3
 ·simp only[if_pos n3];exact⟨trivial,.refl h⟩
 simp only[if_neg n3]
 by_cases n4:s.Kind=4
 ·simp only[if_pos n4];exact⟨trivial,.refl h⟩
 simp only[if_neg n4]
 by_cases n9:s.Kind=9
 ·simp only[if_pos n9];exact⟨trivial,e0.trans e2⟩
 simp only[if_neg n9]
 by_cases n5:s.Kind=5
 ·simp only[if_pos n5];exact⟨trivial,d2⟩
 simp only[if_neg n5]
 by_cases n6:s.Kind=6
 ·simp only[if_pos n6];exact⟨trivial,c2⟩
 simp only[if_neg n6]
 exact⟨trivial,.refl h⟩
structure Ajc (i:Nat) (s t:D.State):Prop where
 g:t.Globals=s.Globals
 c:t.Chans=s.Chans
 cl:t.Claim=s.Claim
 len:t.Procs.length=s.Procs.length
 il:i<s.Procs.length
 ps:∀ k:Nat,k≠i->t.Procs.getD k default=s.Procs.getD k default
theorem Qf {l r:List D.Process}{k to:Int}(h0:0<=k)(hk:k≠i)(hl:r.length=l.length)(h:∀ k:Nat,k≠i->r.getD k default=l.getD k default) :
  (∀ j:Nat,j≠i->(CK r k to).getD j default=(CK l k to).getD j default)/\(CK l k to).getD i default=l.getD i default/\(CK r k to).getD i default=r.getD i default:=by
 refine⟨fun j hj=>?_,IM (by omega) h0,IM (by omega) h0⟩
 unfold CK
 rw[CZ,CZ,hl,h j hj,h k.toNat (by omega)]
theorem Afe (hA:Adm e.M)(h:Oth i e f){pr:ByteArray->List Int->ByteArray}{w:Wy}(hw:w.With≠i)(hd:w.Way<0->e.Pid=(e.S.Procs.length:Int) - 1)(hz:(goE pr e w).2.2=0) :
  (goE pr f w).2.2=0/\Ajc i (goE pr e w).1 (goE pr f w).1/\(goE pr e w).1.Procs.getD i default=e.S.Procs.getD i default/\(goE pr f w).1.Procs.getD i default=f.S.Procs.getD i default:=by
 obtain⟨d1,d2⟩:=Afy hA h (pr:=pr) (BG e w).S hw
 have hne:=h.ne
 have hp0:=h.p0
 have hil:=h.il
 unfold goE at hz ⊢
 rw[SM h,d1]
 cases c1:decide (w.Err≠0) with
 | true=>rw[c1,cond_true]at hz;exact absurd hz (of_decide_eq_true c1)
 | false =>
 rw[c1,cond_false]at hz
 rw[cond_false,cond_false]
 cases c2:decide (w.Way<0) with
 | true =>
  have hl:=hd (of_decide_eq_true c2)
  have k1:∀ {l:List D.Process} {k:Nat},k<e.Pid.toNat->(l.take e.Pid.toNat).getD k default=l.getD k default:=fun hk=>Qg hk
  refine⟨rfl,⟨h.g,h.c,h.cl,?_,?_,fun k hk=>?_⟩,k1 (by omega),by show(f.S.Procs.take f.Pid.toNat).getD i default=_;rw[h.pid];exact k1 (by omega)⟩
  ·show(f.S.Procs.take f.Pid.toNat).length=(e.S.Procs.take e.Pid.toNat).length
   rw[h.pid,List.length_take,List.length_take,h.len]
  ·show i<(e.S.Procs.take e.Pid.toNat).length
   rw[List.length_take];omega
  ·show(f.S.Procs.take f.Pid.toNat).getD k default=(e.S.Procs.take e.Pid.toNat).getD k default
   rw[h.pid]
   have:=h.ps k hk
   simp only[List.getD,List.getElem?_take]at this ⊢
   split
   ·exact this
   ·rfl
 | false =>
 rw[c2,cond_false]at hz
 rw[cond_false,cond_false]
 cases c3:decide ((Bn pr e (BG e w).S w).2.2≠0) with
 | true=>rw[c3,cond_true]at hz;exact absurd hz (of_decide_eq_true c3)
 | false =>
 rw[cond_false,cond_false]
 have o:=d2.oth
 have key:∀ {l r:List D.Process},r.length=l.length->l.length=(Bn pr e (BG e w).S w).1.S.Procs.length->(∀ k:Nat,k≠i->r.getD k default=l.getD k default)->l.getD i default=e.S.Procs.getD i default->r.getD i default=f.S.Procs.getD i default ->
   Ajc i { (Bn pr e (BG e w).S w).1.S with Procs:=CK l e.Pid (BG e w).To,Last:=e.Pid } { (Bn pr f (BG e w).S w).1.S with Procs:=CK r e.Pid (BG e w).To,Last:=f.Pid } /\
   (CK l e.Pid (BG e w).To).getD i default=e.S.Procs.getD i default/\(CK r e.Pid (BG e w).To).getD i default=f.S.Procs.getD i default:=by
  intro l r hlr hl hps h1 h2
  obtain⟨t1,t2,t3⟩:=Qf (to:=(BG e w).To) hp0 hne hlr hps
  refine⟨⟨o.g,o.c,o.cl,?_,?_,t1⟩,t2.trans h1,t3.trans h2⟩
  ·show(CK _ _ _).length=(CK _ _ _).length
   rw[CJ,CJ,hlr]
  ·show i<(CK _ _ _).length
   rw[CJ,hl]
   exact o.il
 unfold G1
 rw[SM h,h.pid]
 cases c4:decide (0<=w.With) with
 | true =>
  have h0:=of_decide_eq_true c4
  rw[SL h h0 hw]
  obtain⟨t1,t2,t3⟩:=Qf (to:=(DZ e w).To) h0 hw o.len o.ps
  obtain⟨g1,g2,g3⟩:=key (by rw[CJ,CJ];exact o.len) CJ t1 (t2.trans d2.ke) (t3.trans d2.kf)
  rw[h.pid]at g1
  exact⟨rfl,g1,g2,g3⟩
 | false =>
  obtain⟨g1,g2,g3⟩:=key o.len rfl o.ps d2.ke d2.kf
  rw[h.pid]at g1
  exact⟨rfl,g1,g2,g3⟩
end
def PW (g:Int->Bool)(x:D.Expr):Bool :=
 bif decide (x.Op=1)||decide (x.Op=31) then true
 else bif decide (x.Op=2) then decide (x.V.Scope=1)&&x.V.Dims.all fun d=>g d.I
 else decide (3<=x.Op)&&(decide (x.Op<=24)&&(g x.A&&(g x.B&&g x.C)))
def isO (m:D.Model):Nat->Int->Bool
 | 0,_=>true
 | n+1,x=>bif decide (x<0) then true else PW (isO m n) (Ao m x)
def FK (m:D.Model)(x:Int):Bool:=isO m m.Exprs.length x
def JW (m:D.Model)(s:D.Stmt):Bool :=
 if s.Kind=1 then FK m s.A else if s.Kind=2 then FK m s.A&&FK m s.B else if s.Kind=4 then s.Args.all (FK m) else decide (s.Kind=8)||decide (s.Kind=7)
def ES (l:D.Loc):Bool:=l.Atomic||(l.Dstep||(l.Accept||l.Progress))
def It (m:D.Model):Bool:=m.Shapes.any fun s=>decide (s.Room=0)
def RA (l:D.Loc):Bool:=(Bw l).any fun w=>w.any fun t=>decide (t.S.Kind=6)&&decide (t.S.N<2)
def Gw (m:D.Model)(l:D.Loc):Bool:=It m&&RA l
def DV (m:D.Model)(p:D.Proc)(l:D.Loc):Bool :=
 !(decide (l.Out.length=0)||(decide (0<l.Esc.length)||(ES l||decide (0<=p.Provided))))&&l.Out.all fun t=>JW m t.S&&(!ES (p.Locs.getD t.To.toNat default)&&!Gw m (p.Locs.getD t.To.toNat default))
structure IC (e f:D.Env):Prop where
 M:f.M=e.M
 pid:f.Pid=e.Pid
 pe:B5 e
 pf:B5 f
 ps:Ci f e.Pid=Ci e e.Pid
section
variable {e f:D.Env} {ev ev':Evl}
theorem UX : ∀ {l:List D.Dim} {n:Int},(∀ d∈l,ev' d.I=ev d.I)->Dn ev' n l=Dn ev n l
 | [],_,_=>rfl
 | d::l,n,h=>by
  rw[Im,Im,h d (List.mem_cons_self ..),UX fun d' hd=>h d' (List.mem_cons_of_mem _ hd)]
theorem Qm (h:IC e f){k:Int}{x:D.Expr}(_:P2 e.M k x)(h2:x.Op=2)(hs:x.V.Scope=1)(hd:∀ d∈x.V.Dims,ev' d.I=ev d.I):Bl f ev' x=Bl e ev x/\((Bl e ev x).2.2=0->(Bl e ev x).1=e.Pid):=by
 have hh:BT f ev' x.V=BT e ev x.V:=by
  unfold BT
  rw[hs,h.pid,h.ps]
  simp only[show decide ((1:Int)=0)=false from rfl,decide_true,cond_true,cond_false]
 unfold Bl
 rw[hh,UX hd,show decide (x.Op≠2)=false by simpa using h2,cond_false]
 refine⟨rfl,?_⟩
 cases c1:decide ((BT e ev x.V).2≠0) with
 | true=>intro hz;exact absurd hz (of_decide_eq_true c1)
 | false =>
  rw[cond_false]
  cases c2:decide ((Dn ev x.V.Slot x.V.Dims).2≠0) with
  | true=>intro hz;exact absurd hz (of_decide_eq_true c2)
  | false =>
   intro _
   rw[cond_false]
   show(BT e ev x.V).1=e.Pid
   unfold BT at c1 ⊢
   rw[hs]at c1 ⊢
   simp only[show decide ((1:Int)=0)=false from rfl,decide_true,cond_true,cond_false]at c1 ⊢
   revert c1
   cases (decide (e.Pid<0)||decide (((Ci e e.Pid).Frame.length:Int)<CM x.V))<;>simp
theorem Rf {e:D.Env}{ev:Evl}{x:D.Expr}(h1:3<=x.Op)(h2:x.Op<=21):CD e ev x=Qh ev x:=by
 unfold CD
 repeat rw[if_neg (by omega)]
theorem Rg (h:IC e f){g:Int->Bool}{k:Int}{x:D.Expr}(hx:P2 e.M k x)(ho:PW g x=true)(hev:∀ a,0<=a->a<k->g a=true->ev' a=ev a):CD f ev' x=CD e ev x:=by
 unfold PW at ho
 cases c1:(decide (x.Op=1)||decide (x.Op=31)) with
 | true =>
  simp only[Bool.or_eq_true,decide_eq_true_eq]at c1
  unfold CD
  rcases c1 with c1 | c1
  ·rw[if_pos c1,if_pos c1]
  ·rw[c1]
   simp[h.pid]
 | false =>
 rw[c1,cond_false]at ho
 simp only[Bool.or_eq_false_iff,decide_eq_false_iff_not]at c1
 cases c2:decide (x.Op=2) with
 | true =>
  have c2:=of_decide_eq_true c2
  rw[decide_eq_true c2,cond_true,Bool.and_eq_true]at ho
  have hv:=HL (hx.var c2)
  obtain⟨s1,s2⟩:=Qm (ev:=ev) (ev':=ev') h hx c2 (of_decide_eq_true ho.1) fun d hd=>by
   have:=hv.dim d hd
   exact hev d.I this.2.1 this.2.2 (List.all_eq_true.1 ho.2 d hd)
  unfold CD
  rw[if_neg c1.1,if_pos c2,if_neg c1.1,if_pos c2]
  unfold M8
  rw[s1]
  cases c3:decide ((Bl e ev x).2.2≠0) with
  | true=>rfl
  | false =>
   have hw:=s2 (by simpa using c3)
   have:=h.pe.p0
   rw[hw,decide_eq_false (by omega),cond_false,cond_false,cond_false,cond_false,h.ps]
 | false =>
  have c2:=of_decide_eq_false c2
  rw[decide_eq_false c2,cond_false]at ho
  simp only[Bool.and_eq_true,decide_eq_true_eq]at ho
  obtain⟨o1,o2,gA,gB,gC⟩:=ho
  have hA:ev' x.A=ev x.A:=by
   have:1<=AP x.Op:=by unfold AP;grind
   exact hev _ (hx.a this).1 (hx.a this).2 gA
  have hB:6<=x.Op->ev' x.B=ev x.B:=fun h6=>by
   have:2<=AP x.Op:=by unfold AP;grind
   exact hev _ (hx.b this).1 (hx.b this).2 gB
  have hC:x.Op=24->ev' x.C=ev x.C:=fun h24=>by
   have:3<=AP x.Op:=by unfold AP;grind
   exact hev _ (hx.c this).1 (hx.c this).2 gC
  by_cases h22:x.Op=22∨x.Op=23∨x.Op=24
  ·have hl:∀ {e:D.Env} {ev:Evl},CD e ev x=I5 ev x:=fun{e ev}=>by
    unfold CD
    rw[if_neg c1.1,if_neg c2,if_pos h22]
   rw[hl,hl]
   unfold I5
   rw[hA,hB (by omega)]
   cases c4:decide (x.Op=24) with
   | true=>rw[hC (of_decide_eq_true c4)]
   | false=>rfl
  ·rw[Rf o1 (by omega),Rf o1 (by omega)]
   unfold Qh
   rw[hA]
   cases c5:(decide (x.Op=3)||(decide (x.Op=4)||decide (x.Op=5))) with
   | true=>simp only[cond_true]
   | false =>
    simp only[Bool.or_eq_false_iff,decide_eq_false_iff_not]at c5
    rw[hB (by omega)]
theorem Afo (h:BR e){x:Int}(h0:0<=x)(h1:x<e.M.Exprs.length):P2 e.M x (Ao e.M x):=by
 have:=h.expr x.toNat (by omega)
 rw[show((x.toNat:Nat):Int)=x by omega]at this
 exact Pj this
theorem Ri (h:IC e f):∀ (n:Nat) {x:Int},0<=x->x<e.M.Exprs.length->isO e.M n x=true->GD f n x=GD e n x
 | 0,_,_,_,_=>rfl
 | n+1,x,h0,h1,ho=>by
  have ho:(bif decide (x<0) then true else PW (isO e.M n) (Ao e.M x))=true:=ho
  rw[decide_eq_false (by omega),cond_false]at ho
  show CD f (GD f n) (Ao f.M x)=CD e (GD e n) (Ao e.M x)
  rw[h.M]
  exact Rg h (Afo h.pe.ok h0 h1) ho fun a a0 a1 ga=>Ri h n a0 (by omega) ga
theorem B5.ckz (h:B5 e):B3 e.M e.S=0:=by
 unfold B3
 rw[h.ok.may,h.ok.fits]
 rfl
theorem Ik (h:B5 e){x:Int}(h0:0<=x)(h1:x<e.M.Exprs.length):B8 e x=0:=by
 have:=h.p0
 have:=h.ok.pid
 unfold B8
 rw[h.ckz,decide_eq_false (by simp),cond_false,decide_eq_false (show ¬ e.Pid < -1 by omega),decide_eq_false (show ¬ (e.S.Procs.length:Int)<=e.Pid by omega),decide_eq_false (show ¬ x<0 by omega),decide_eq_false (show ¬ (e.M.Exprs.length:Int)<=x by omega)]
 rfl
theorem N0 (h:IC e f){x:Int}(h0:0<=x)(h1:x<e.M.Exprs.length)(ho:FK e.M x=true):Bh f x=Bh e x/\((Ao e.M x).Op=2->Bl f (D0 f) (Ao e.M x)=Bl e (D0 e) (Ao e.M x)/\((Bl e (D0 e) (Ao e.M x)).2.2=0->(Bl e (D0 e) (Ao e.M x)).1=e.Pid)):=by
 have hx:=Afo h.pe.ok h0 h1
 have hf0:B8 f x=0:=Ik h.pf h0 (by rw[h.M];exact h1)
 have he0:B8 e x=0:=Ik h.pe h0 h1
 have hn:e.M.Exprs.length=(e.M.Exprs.length - 1)+1:=by omega
 have ho:(bif decide (x<0) then true else PW (isO e.M (e.M.Exprs.length - 1)) (Ao e.M x))=true:=by
  unfold FK at ho
  rw[hn]at ho
  exact ho
 rw[decide_eq_false (by omega),cond_false]at ho
 have hev:∀ a,0<=a->a<x->isO e.M (e.M.Exprs.length - 1) a=true->D0 f a=D0 e a:=fun a a0 a1 ga=>by
  unfold D0
  rw[h.M]
  exact Ri h _ a0 (by omega) ga
 refine⟨?_,fun h2=>?_⟩
 ·unfold Bh
  rw[hf0,he0,h.M]
  exact Rg h hx ho hev
 ·unfold PW at ho
  rw[h2]at ho
  simp only[show(decide ((2:Int)=1)||decide ((2:Int)=31))=false from rfl,decide_true,cond_true,cond_false,Bool.and_eq_true]at ho
  have hv:=HL (hx.var h2)
  exact Qm h hx h2 (of_decide_eq_true ho.1) fun d hd=>hev d.I (hv.dim d hd).2.1 (hv.dim d hd).2.2 (List.all_eq_true.1 ho.2 d hd)
theorem Aie {x:Int}(h0:0<=x)(h1:x<e.M.Exprs.length)(ho:FK e.M x=true):(Ao e.M x).Op≠39:=by
 unfold FK at ho
 rw[show e.M.Exprs.length=(e.M.Exprs.length - 1)+1 by omega]at ho
 have ho:(bif decide (x<0) then true else PW (isO e.M (e.M.Exprs.length - 1)) (Ao e.M x))=true:=ho
 rw[decide_eq_false (by omega),cond_false]at ho
 intro h39
 unfold PW at ho
 rw[h39]at ho
 simp at ho
theorem LG {x:Int}(h0:0<=x)(h1:x<e.M.Exprs.length)(ho:FK e.M x=true):BJ e x=false:=by
 have:=Aie h0 h1 ho
 unfold BJ
 simp[this]
structure L3 (m:D.Model) (s:D.Stmt):Prop where
 own:JW m s=true
 st:C4 m s
theorem L3.kind {m:D.Model}{s:D.Stmt}(h:L3 m s):s.Kind=1∨s.Kind=2∨s.Kind=4∨s.Kind=7∨s.Kind=8:=by
 have:=h.own
 unfold JW at this
 split at this
 ·omega
 split at this
 ·omega
 split at this
 ·omega
 simp only[Bool.or_eq_true,decide_eq_true_eq]at this
 omega
theorem L3.a1 {m:D.Model}{s:D.Stmt}(h:L3 m s)(hk:s.Kind=1):FK m s.A=true:=by
 have:=h.own
 unfold JW at this
 rwa [if_pos hk]at this
theorem L3.a2 {m:D.Model}{s:D.Stmt}(h:L3 m s)(hk:s.Kind=2):FK m s.A=true/\FK m s.B=true:=by
 have:=h.own
 unfold JW at this
 rw[if_neg (by omega),if_pos hk]at this
 exact Bool.and_eq_true_iff.1 this
theorem L3.a4 {m:D.Model}{s:D.Stmt}(h:L3 m s)(hk:s.Kind=4):∀ a∈s.Args,FK m a=true:=by
 have:=h.own
 unfold JW at this
 rw[if_neg (by omega),if_neg (by omega),if_pos hk]at this
 exact List.all_eq_true.1 this
theorem C4.v2 {m:D.Model}{s:D.Stmt}(h:C4 m s)(hk:s.Kind=2):0<=s.A/\s.A<m.Exprs.length/\(Ao m s.A).Op=2:=by
 have:=h.st
 unfold Au at this
 rw[if_neg (by omega),if_pos hk]at this
 simp only[Bool.and_eq_true]at this
 have:=this.1.1
 unfold BF CX at this
 simp only[Bool.and_eq_true,decide_eq_true_eq]at this
 exact⟨(B1.1 this.1.1).1,(B1.1 this.1.1).2,this.1.2⟩
theorem C4.a4 {m:D.Model}{s:D.Stmt}(h:C4 m s)(hk:s.Kind=4):∀ a∈s.Args,0<=a/\a<m.Exprs.length:=by
 have:=h.st
 unfold Au at this
 rw[if_neg (by omega),if_neg (by omega),if_pos hk]at this
 simp only[Bool.and_eq_true]at this
 exact Mo this.1.1.1.2
theorem HQ {e:D.Env}{mt:Int->List Int->List Pn}{self:Bool}{s:D.Stmt}(h:s.Kind=4∨s.Kind=8):BA e mt s self=⟨true,0,[]⟩:=by
 unfold BA
 repeat rw[if_neg (by omega)]
theorem S5 (h:IC e f){s:D.Stmt}(hs:L3 e.M s){mt mt':Int->List Int->List Pn}{self:Bool}:BA f mt' s self=BA e mt s self/\(BA e mt s self).wth=[]:=by
 have hr:∀ x,BJ f x=BJ e x:=fun x=>by unfold BJ;rw[h.M]
 rcases hs.kind with hk | hk | hk | hk | hk
 ·have hx:=hs.st.k1 hk
  have q:∀ {e':D.Env} {mt:Int->List Int->List Pn},BJ e' s.A=false->BA e' mt s self=⟨decide ((Bh e' s.A).1≠0)||decide ((Bh e' s.A).2≠0),(Bh e' s.A).2,[]⟩:=fun{e' mt} hn=>by
   unfold BA
   rw[if_pos hk,hn]
   rfl
  have hn:=LG hx.1 hx.2 (hs.a1 hk)
  rw[q hn,q ((hr _).trans hn),(N0 h hx.1 hx.2 (hs.a1 hk)).1]
  exact⟨rfl,rfl⟩
 ·have hx:=hs.st.k2 hk
  have q:∀ {e':D.Env} {mt:Int->List Int->List Pn},BJ e' s.B=false->BA e' mt s self=⟨true,0,[]⟩:=fun{e' mt} hn=>by
   unfold BA
   rw[if_neg (by omega),if_pos hk,hn]
   rfl
  have hn:=LG hx.1 hx.2 (hs.a2 hk).2
  rw[q hn,q ((hr _).trans hn)]
  exact⟨rfl,rfl⟩
 ·rw[HQ (.inl hk),HQ (.inl hk)]
  exact⟨rfl,rfl⟩
 ·rw[L9 hk,L9 hk]
  exact⟨rfl,rfl⟩
 ·rw[HQ (.inr hk),HQ (.inr hk)]
  exact⟨rfl,rfl⟩
structure PL (e:D.Env):Prop where
 out:(Br e).Out≠[]
 esc:(Br e).Esc=[]
 prov:(BQ e).Provided<0
 own:∀ t∈(Br e).Out,L3 e.M t.S
 fin:(Ci e e.Pid).Loc≠(BQ e).Final
theorem Ue (h:IC e f):BQ f=BQ e/\Br f=Br e:=by
 have h1:BQ f=BQ e:=by unfold BQ;rw[h.M,h.pid,h.ps]
 exact⟨h1,by unfold Br;rw[h1,h.pid,h.ps]⟩
theorem Ac1 (h:IC e f){ws:List D.Trans}(hs:∀ t∈ws,L3 e.M t.S){mt mt':Int->List Int->List Pn}{self:Bool}:∀ n,n<=ws.length->Dz f mt' ws self n=Dz e mt ws self n:=fun n=>by
 induction n with
 | zero=>exact fun _=>rfl
 | succ n ih =>
  intro hn
  show(Dz f mt' ws self n||(BA f mt' (ws.getD n default).S self).is)=(Dz e mt ws self n||(BA e mt (ws.getD n default).S self).is)
  rw[ih (by omega),(S5 h (hs _ (An (by omega)))).1]
theorem Zo (h:IC e f){ws:List D.Trans}(hs:∀ t∈ws,L3 e.M t.S){mt mt':Int->List Int->List Pn}{self:Bool}{n:Nat}(hn:n<ws.length):C1 f mt' ws self n=C1 e mt ws self n/\(C1 e mt ws self n).wth=[]:=by
 obtain⟨q1,q2⟩:=S5 h (hs _ (An (d:=default) hn)) (mt:=mt) (mt':=mt') (self:=self)
 unfold C1
 rw[Ac1 h hs _ (Nat.le_refl _),q1]
 refine⟨rfl,?_⟩
 cases (decide ((ws.getD n default).S.Kind=7)&&!Dz e mt ws self ws.length)<;>exact q2
theorem AfF (h:IC e f){ws:List D.Trans}(hs:∀ t∈ws,L3 e.M t.S){mt mt':Int->List Int->List Pn}{self:Bool}:Dj f mt' ws self=Dj e mt ws self :=
 List.map_congr_left fun _ hn=>(Zo h hs (List.mem_range.1 hn)).1
theorem Hp (h:IC e f)(hs:PL e):AF f=AF e/\∀ w∈AF e,w.With=-1/\w.WithEsc=-1/\w.WithWay=-1/\w.Esc=-1/\0<=w.Way/\BG e w∈(Br e).Out:=by
 obtain⟨p1,p2⟩:=Ue h
 have hcan:∀ n,n<(Br e).Out.length->(C1 e (Bm e) (Br e).Out false n).wth=[]:=fun n hn=>(Zo h hs.own (mt':=Hu) hn).2
 have hall:Dj f (Bm f) (Br e).Out false=Dj e (Bm e) (Br e).Out false:=AfF h hs.own
 have hl:Gx (Br e)=[(-1,(Br e).Out)]:=by unfold Gx;rw[hs.esc];rfl
 have hpr:∀ {x:D.Env},BQ x=BQ e->A6 x=(true,0):=fun{x} hx=>by unfold A6;rw[hx,decide_eq_true hs.prov];rfl
 have hp:∀ {x:D.Env},BQ x=BQ e->Br x=Br e->Ci x x.Pid=Ci e e.Pid->Dj x (Bm x) (Br e).Out false=Dj e (Bm e) (Br e).Out false->AF x=DC (-1) 0 (Dj e (Bm e) (Br e).Out false):=fun{x} h1 h2 h3 h4=>by
  unfold AF
  rw[h1,h3,h2,hpr h1,decide_eq_false hs.fin,hl,cond_false]
  show EI x [(-1,(Br e).Out)]=_
  unfold EI
  rw[h4]
  cases c:DC (-1) 0 (Dj e (Bm e) (Br e).Out false) with
  | nil=>rfl
  | cons a l=>rfl
 refine⟨(hp p1 p2 (by rw[h.pid];exact h.ps) hall).trans (hp rfl rfl rfl rfl).symm,fun w hw=>?_⟩
 rw[hp rfl rfl rfl rfl]at hw
 obtain⟨j,x,hj,he,hway,hd⟩:=LK hw
 obtain⟨hlt,hx⟩:=KF hj
 have hwth:=hcan j hlt
 rw[← hx]at hwth
 obtain⟨j',x',hj',hw'⟩:=IF hw
 rw[Nat.zero_add]at hw' hway
 have hjj:(Fa (-1) j' x')=(Fa (-1) j' x'):=rfl
 obtain⟨hlt',hx'⟩:=KF hj'
 have hwth':=hcan j' hlt'
 rw[← hx']at hwth'
 unfold Fa at hw'
 rw[hwth',List.map_nil,List.append_nil]at hw'
 cases c:(x'.is&&decide (([]:List Pn).length=0)) with
 | false=>rw[c]at hw';cases hw'
 | true =>
  rw[c,cond_true,List.mem_singleton]at hw'
  subst hw'
  refine⟨rfl,rfl,rfl,rfl,Int.natCast_nonneg j',?_⟩
  show(CH (Br e) (-1)).getD (j':Int).toNat default∈(Br e).Out
  exact An (by omega)
theorem S3 {x v:Int}(h0:B8 e x=0)(h:(Be e x v).2=0):(Bl e (D0 e) (Ao e.M x)).2.2=0:=by
 have h:(BM e x v).2=0:=h
 unfold BM at h
 rw[decide_eq_false (fun hn=>hn h0),cond_false]at h
 cases c:decide ((Bl e (D0 e) (Ao e.M x)).2.2≠0) with
 | true=>rw[c,cond_true]at h;exact absurd h (of_decide_eq_true c)
 | false=>simpa using c
theorem On {x v:Int}(h0:B8 e x=0)(hp:0<=e.Pid)(hs:(Bl e (D0 e) (Ao e.M x)).2.2=0)(hw:(Bl e (D0 e) (Ao e.M x)).1=e.Pid) :
  Be e x v=({ e with S:=Ts e.M e.S e.Pid (Bl e (D0 e) (Ao e.M x)).2.1 v },0):=by
 have hq:BM e x v=(Ts e.M e.S e.Pid (Bl e (D0 e) (Ao e.M x)).2.1 v,0):=by
  unfold BM
  rw[decide_eq_false (fun hn=>hn h0),cond_false,decide_eq_false (fun hn=>hn hs),cond_false,hw]
  unfold IA
  rw[decide_eq_false (by omega),cond_false]
 unfold Be stE
 rw[hq]
 rfl
theorem Ox {s:D.Stmt}(h:BJ e s.B=false):Ei e s=bif decide ((Bh e s.B).2≠0) then(e,(Bh e s.B).2) else Be e s.A (Bh e s.B).1:=by
 unfold Ei
 rw[h]
 rfl
theorem Vd {g:Evl}{g':Evl}:∀ {l out:List Int},(∀ a∈l,g' a=g a)->Iv g' out l=Iv g out l
 | [],_,_=>rfl
 | x::l,out,h=>by
  unfold Iv
  rw[h x (List.mem_cons_self ..),Vd fun a ha=>h a (List.mem_cons_of_mem _ ha)]
theorem XO (h:IC e f)(hs:PL e){pr:ByteArray->List Int->ByteArray}{w:Wy}(hin:w∈AF e)(hz:(goE pr e w).2.2=0) :
  (goE pr f w).2.2=0/\∃ p to,(goE pr e w).1={ e.S with Procs:=e.S.Procs.set e.Pid.toNat p,Last:=e.Pid }/\(goE pr f w).1={ f.S with Procs:=f.S.Procs.set e.Pid.toNat p,Last:=e.Pid }/\p.Type_=(Ci e e.Pid).Type_/\p.Loc=to/\to=(BG e w).To:=by
 obtain⟨w1,w2,w3,w4,w5,w6⟩:=(Hp h hs).2 w hin
 have hA:BG f w=BG e w:=by unfold BG;rw[(Ue h).2]
 have hS:=hs.own _ w6
 generalize ht:BG e w=t at hS
 have he0:w.Err=0:=by
  unfold goE at hz
  cases c1:decide (w.Err≠0) with
  | true=>rw[c1,cond_true]at hz;exact absurd hz (of_decide_eq_true c1)
  | false=>simpa using c1
 have hd:(Bn pr e t.S w).2.2=0:=by
  unfold goE at hz
  rw[ht,he0,decide_eq_false (by simp),cond_false,decide_eq_false (by omega),cond_false]at hz
  cases c3:decide ((Bn pr e t.S w).2.2≠0) with
  | true=>rw[c3,cond_true]at hz;exact absurd hz (of_decide_eq_true c3)
  | false=>simpa using c3
 have hp0:=h.pe.p0
 have hle:=h.pe.lt
 have hlf:=h.pf.lt
 rw[h.pid]at hlf
 have key:∃ q:D.Process,q.Type_=(Ci e e.Pid).Type_/\(Bn pr f t.S w).2.2=0/\(Bn pr e t.S w).1.S={ e.S with Procs:=e.S.Procs.set e.Pid.toNat q }/\(Bn pr f t.S w).1.S={ f.S with Procs:=f.S.Procs.set e.Pid.toNat q }:=by
  have set_self:∀ {s:D.State},e.Pid.toNat<s.Procs.length->s={ s with Procs:=s.Procs.set e.Pid.toNat (s.Procs.getD e.Pid.toNat default) }:=fun{s} hl=>by
   have:s.Procs.set e.Pid.toNat (s.Procs.getD e.Pid.toNat default)=s.Procs:=by
    refine List.ext_getElem (by simp) fun k h1 h2=>?_
    rw[List.getElem_set]
    split
    ·rename_i hk;subst hk;simp[List.getD,h2]
    ·rfl
   rw[this]
  have still:(Bn pr e t.S w).1=e->(Bn pr f t.S w).1=f->(Bn pr f t.S w).2.2=0->∃ q:D.Process,q.Type_=(Ci e e.Pid).Type_/\(Bn pr f t.S w).2.2=0/\(Bn pr e t.S w).1.S={ e.S with Procs:=e.S.Procs.set e.Pid.toNat q }/\(Bn pr f t.S w).1.S={ f.S with Procs:=f.S.Procs.set e.Pid.toNat q }:=fun a1 a2 a3=>by
   have hq:f.S.Procs.getD e.Pid.toNat default=e.S.Procs.getD e.Pid.toNat default:=h.ps
   refine⟨Ci e e.Pid,rfl,a3,by rw[a1];exact set_self hle,?_⟩
   rw[a2]
   have:=set_self (s:=f.S) hlf
   rw[hq]at this
   exact this
  have hr:∀ x,BJ f x=BJ e x:=fun x=>by unfold BJ;rw[h.M]
  rcases hS.kind with hk | hk | hk | hk | hk
  ·have hx:=hS.st.k1 hk
   have hn:=LG hx.1 hx.2 (hS.a1 hk)
   refine still ?_ ?_ ?_<;>(unfold Bn;rw[if_pos hk])
   ·rw[hn];rfl
   ·rw[hr,hn];rfl
   ·rw[hr,hn];rfl
  ·have hx:=hS.st.k2 hk
   have hn:=LG hx.1 hx.2 (hS.a2 hk).2
   obtain⟨v1,v2,v3⟩:=hS.st.v2 hk
   have heB:=(N0 h hx.1 hx.2 (hS.a2 hk).2).1
   obtain⟨s1,s2⟩:=(N0 h v1 v2 (hS.a2 hk).1).2 v3
   have q:∀ {x:D.Env},(Bn pr x t.S w).1=(Ei x t.S).1/\(Bn pr x t.S w).2.2=(Ei x t.S).2:=fun{x}=>by unfold Bn;rw[if_neg (by omega),if_pos hk];exact⟨rfl,rfl⟩
   rw[(q (x:=e)).2]at hd
   rw[(q (x:=e)).1,(q (x:=f)).1,(q (x:=f)).2]
   rw[Ox hn]at hd
   rw[Ox hn,Ox ((hr _).trans hn),heB]
   cases c1:decide ((Bh e t.S.B).2≠0) with
   | true=>rw[c1,cond_true]at hd;exact absurd hd (of_decide_eq_true c1)
   | false =>
   rw[c1,cond_false]at hd
   rw[cond_false,cond_false]
   generalize (Bh e t.S.B).1=v at hd ⊢
   have he0:B8 e t.S.A=0:=Ik h.pe v1 v2
   have hf0:B8 f t.S.A=0:=Ik h.pf v1 (by rw[h.M];exact v2)
   have hz0:=S3 he0 hd
   have hq:f.S.Procs.getD e.Pid.toNat default=e.S.Procs.getD e.Pid.toNat default:=h.ps
   rw[On he0 hp0 hz0 (s2 hz0),On hf0 (by rw[h.pid];exact hp0) (by rw[h.M,s1];exact hz0) (by rw[h.M,s1,h.pid];exact s2 hz0)]
   refine⟨VJ e.M (Ci e e.Pid) (Bl e (D0 e) (Ao e.M t.S.A)).2.1 v,rfl,rfl,rfl,?_⟩
   show Ts f.M f.S f.Pid (Bl f (D0 f) (Ao f.M t.S.A)).2.1 v=_
   rw[h.M,h.pid,s1]
   unfold Ts
   rw[hq]
   rfl
  ·have heq:BI f t.S.Args=BI e t.S.Args:=Vd fun a ha=>(N0 h (hS.st.a4 hk a ha).1 (hS.st.a4 hk a ha).2 (hS.a4 hk a ha)).1
   have q:∀ {x:D.Env},(Bn pr x t.S w).1=x/\(Bn pr x t.S w).2.2=(BI x t.S.Args).2:=fun{x}=>by unfold Bn;rw[if_neg (by omega),if_neg (by omega),if_neg (by omega),if_pos hk];exact⟨rfl,rfl⟩
   rw[q.2]at hd
   exact still q.1 q.1 (by rw[q.2,heq];exact hd)
  ·have q:∀ {x:D.Env},(Bn pr x t.S w).1=x/\(Bn pr x t.S w).2.2=0:=fun{x}=>by unfold Bn;simp[hk]
   exact still q.1 q.1 q.2
  ·have q:∀ {x:D.Env},(Bn pr x t.S w).1=x/\(Bn pr x t.S w).2.2=0:=fun{x}=>by unfold Bn;simp[hk]
   exact still q.1 q.1 q.2
 obtain⟨q,q1,q2,q3,q4⟩:=key
 have hgo:∀ {x:D.Env},x.Pid=e.Pid->BG x w=t->(Bn pr x t.S w).2.2=0->(goE pr x w).2.2=0/\(goE pr x w).1=G1 x w (Bn pr x t.S w).1.S:=fun{x} g1 g2 g3=>by
  unfold goE
  rw[g2,he0,decide_eq_false (by simp),cond_false,decide_eq_false (by omega),cond_false,g3,decide_eq_false (by simp),cond_false]
  exact⟨rfl,rfl⟩
 obtain⟨g1,g2⟩:=hgo rfl ht hd
 obtain⟨g3,g4⟩:=hgo h.pid (hA.trans ht) q2
 have gone:∀ {x:D.Env} {s:D.State},x.Pid=e.Pid->BG x w=t->e.Pid.toNat<s.Procs.length->G1 x w { s with Procs:=s.Procs.set e.Pid.toNat q }={ s with Procs:=s.Procs.set e.Pid.toNat { q with Loc:=t.To },Last:=e.Pid }:=fun{x s} a1 a2 a3=>by
  unfold G1
  rw[a1,a2,w1]
  show({ s with Procs:=CK (s.Procs.set e.Pid.toNat q) e.Pid t.To,Last:=e.Pid }:D.State)=_
  unfold CK
  rw[CZ,if_pos ⟨rfl,a3⟩,List.set_set]
 refine⟨g3,{ q with Loc:=t.To },t.To,?_,?_,q1,rfl,rfl⟩
 ·rw[g2,q3];exact gone rfl ht hle
 ·rw[g4,q4];exact gone h.pid (hA.trans ht) hlf
end
def GP (m:D.Model)(s:D.State)(l:List Nx):List Int :=
 ((List.range s.Procs.length).filter fun i=>DV m (AN m (s.Procs.getD i default).Type_) ((AN m (s.Procs.getD i default).Type_).Locs.getD (s.Procs.getD i default).Loc.toNat default)&&l.any fun n=>decide (n.Move.Pid=i)).map Int.ofNat
def BH (s:D.State):D.State:={ s with Last:=0,Alone:=-1 }
def AD (m:D.Model)(s:D.State)(i:Int):D.Env:=⟨m,s,i,false,[]⟩
section
variable {m : D.Model} {s:D.State}
theorem AeQ {a b:D.State}(h1:a.Globals=b.Globals)(h2:a.Chans=b.Chans)(h3:a.Procs=b.Procs)(h4:a.Claim=b.Claim):BH a=BH b:=by
 cases a;cases b
 simp only[BH]at *
 subst h1 h2 h3 h4
 rfl
theorem Si (h:Gs m s):Gs m (BH s):=by
 have f:=h.fits
 refine⟨h.wf,h.may,⟨f.g,f.cl,f.pl,⟨by show(0:Int)<=0;omega,by show(0:Int)<16;omega⟩,⟨by show(-1:Int)<=-1;omega,by show(-1:Int)<_;have:=Int.natCast_nonneg (BH s).Procs.length;omega⟩,f.c,f.p,f.k⟩⟩
theorem Gs.at (h:Gs m s){i:Nat}(hi:i<s.Procs.length):AT m (s.Procs.getD i default)=true:=h.fits.p _ (An hi)
theorem O8 {n:Nat}{final:Int}:∀ {ls:List D.Loc} {many i:Nat},FQ n final many i ls=true->∀ j:Nat,j<ls.length->((i+j:Nat):Int)=final->(ls.getD j default).Out=[]
 | [],_,_,_,j,hj,_=>absurd hj (Nat.not_lt_zero j)
 | l::r,many,i,h,j,hj,hf=>by
  unfold FQ at h
  cases c:I6 final i l with
  | true=>rw[c,cond_true]at h;cases h
  | false =>
  rw[c,cond_false]at h
  cases j with
  | zero =>
   unfold I6 at c
   simp only[Bool.or_eq_false_iff,Bool.and_eq_false_iff,decide_eq_false_iff_not]at c
   have:¬ 0<l.Out.length+l.Esc.length:=c.2.resolve_left fun hn=>hn (by simpa using hf)
   exact List.length_eq_zero_iff.1 (by show l.Out.length=0;omega)
  | succ j =>
   split at h
   ·rename_i many' _
    exact O8 h j (by simpa using hj) (by rw[← hf];congr 1;omega)
   ·cases h
theorem AbW {e:D.Env}(h:B5 e)(hf:(Ci e e.Pid).Loc=(BQ e).Final):(Br e).Out=[]:=by
 have hx:=h.facts
 have hg:=(EJ (CB h.ok.may).2.1 (Ci e e.Pid).Type_.toNat (by omega)).2
 unfold Ef at hg
 simp only[Bool.and_eq_true]at hg
 exact O8 hg.2 (Ci e e.Pid).Loc.toNat (by have:=hx.2;unfold BQ AN at this;omega) (by rw[Nat.zero_add,← show(BQ e).Final=(e.M.Procs.getD (Ci e e.Pid).Type_.toNat default).Final from rfl,← hf];omega)
theorem YU (h:Gs m s){i:Nat}(hi:i<s.Procs.length){t:Bool}{a:List Bool}(hs:DV m (AN m (s.Procs.getD i default).Type_) ((AN m (s.Procs.getD i default).Type_).Locs.getD (s.Procs.getD i default).Loc.toNat default)=true) :
  PL ⟨m,s,i,t,a⟩/\Ye m (Br ⟨m,s,i,t,a⟩)/\ES (Br ⟨m,s,i,t,a⟩)=false /\
  ∀ t'∈(Br ⟨m,s,i,t,a⟩).Out,ES ((BQ ⟨m,s,i,t,a⟩).Locs.getD t'.To.toNat default)=false/\Gw m ((BQ ⟨m,s,i,t,a⟩).Locs.getD t'.To.toNat default)=false:=by
 have hp:=(h.pid (i:=(i:Int)) (t:=t) (a:=a) ⟨by omega,by omega⟩).1
 have e1:(AN m (s.Procs.getD i default).Type_)=BQ ⟨m,s,i,t,a⟩:=rfl
 have e2:(AN m (s.Procs.getD i default).Type_).Locs.getD (s.Procs.getD i default).Loc.toNat default=Br ⟨m,s,i,t,a⟩:=rfl
 rw[e2,e1]at hs
 have hws:=hp.ws (ws:=(Br ⟨m,s,i,t,a⟩).Out) (List.mem_cons_self ..)
 have hfacts:=hp.facts
 generalize hL:Br ⟨m,s,i,t,a⟩=L at hs hws ⊢
 generalize hP:BQ ⟨m,s,i,t,a⟩=P at hs hws ⊢
 unfold DV at hs
 simp only[Bool.and_eq_true,Bool.not_eq_true',Bool.or_eq_false_iff,decide_eq_false_iff_not,List.all_eq_true]at hs
 obtain⟨⟨s1,s2,s3,s4⟩,s5⟩:=hs
 have hesc:L.Esc=[]:=List.length_eq_zero_iff.1 (by omega)
 have hout:L.Out≠[]:=fun hn=>s1 (by rw[hn];rfl)
 refine⟨⟨by rw[hL];exact hout,by rw[hL];exact hesc,by rw[hP];omega,by rw[hL];exact fun t' ht=>⟨(s5 t' ht).1,hws.st t' ht⟩,fun hf=>hout ?_⟩,fun ws hws' t' ht=>?_,s3,fun t' ht=>⟨(s5 t' ht).2.1,(s5 t' ht).2.2⟩⟩
 ·rw[← hL]
  exact AbW hp hf
 ·rcases hws' with rfl | hws'
  ·have:=(L3.mk (s5 t' ht).1 (hws.st t' ht)).kind
   omega
  ·rw[hesc]at hws';cases hws'
theorem ZL {l:D.Loc}(h:RA l=false):Ye m l:=fun ws hws t ht hk=>by
 unfold RA at h
 rw[List.any_eq_false]at h
 have h1:=h ws (hws.elim (fun e=>e ▸ List.mem_cons_self ..) (List.mem_cons_of_mem _))
 simp only[Bool.not_eq_true,List.any_eq_false,Bool.and_eq_true,decide_eq_true_eq]at h1
 exact h1 t ht hk
theorem Ads {e:D.Env}{c:Int}(hc:Ny e c)(h:It e.M=false):0<(BW e.M (BP e c).Shape).Room:=by
 unfold It at h
 rw[List.any_eq_false]at h
 have hs:=hc.sh
 have h1:=h _ (An (d:=default) (i:=(BP e c).Shape.toNat) (by omega))
 have h2:=hc.ok.tab.shape (BP e c).Shape.toNat (by omega)
 unfold CF at h2
 simp only[Bool.and_eq_true,decide_eq_true_eq]at h1 h2
 show 0<(e.M.Shapes.getD (BP e c).Shape.toNat default).Room
 omega
theorem Rc (h:Gs m s){i:Nat}(hi:i<s.Procs.length){t:Bool}{a:List Bool}(hs:PL ⟨m,s,i,t,a⟩){p:D.Env × Wy}(hp:p∈GC m s)(hpi:p.1.Pid=i){q:D.Env × Wy}(hq:q∈GC m s) :
  q.1=⟨m,s,q.1.Pid,false,Cp m s s.Procs.length⟩/\0<=q.1.Pid/\q.1.Pid<s.Procs.length/\q.2∈AF q.1:=by
 have ha:DP m s=Cp m s s.Procs.length:=by
  unfold DP
  rw[h.check]<;>rfl
 have key:FS m s=CC ⟨m,s,0,false,DP m s⟩:=by
  unfold FS
  cases c:decide (0<(CC ⟨m,s,0,false,DP m s⟩).length) with
  | true=>rfl
  | false =>
   exfalso
   have h0:CC ⟨m,s,0,false,DP m s⟩=[]:=List.length_eq_zero_iff.1 (by have:=of_decide_eq_false c;omega)
   obtain⟨g,hg,g1,g2⟩:=JH hp
   obtain⟨j,t',hj,rfl⟩:=Ii h hg
   have hji:(j:Int)=i:=by rw[← hpi,g1]
   obtain rfl:j=i:=by omega
   have hpd:=fun(t:Bool) (a:List Bool)=>(h.pid (i:=(j:Int)) (t:=t) (a:=a) ⟨by omega,by omega⟩)
   have hO:IC ⟨m,s,j,t',Cp m s s.Procs.length⟩ ⟨m,s,j,false,DP m s⟩:=⟨rfl,rfl,(hpd _ _).1,(hpd _ _).1,rfl⟩
   have hs':PL ⟨m,s,j,t',Cp m s s.Procs.length⟩:=⟨hs.out,hs.esc,hs.prov,hs.own,hs.fin⟩
   have hw:p.2∈AF ⟨m,s,j,false,DP m s⟩:=by rw[(Hp hO hs').1];exact g2
   have hne:(FT ⟨m,s,j,false,DP m s⟩).1≠[]:=by rw[Gf (hpd _ _).2];exact List.ne_nil_of_mem hw
   have hin:=UJ (e:=⟨m,s,0,false,DP m s⟩) hj hne
   exact UL (e:=⟨m,s,0,false,DP m s⟩) (Ug h) (List.ne_nil_of_mem hin) h0
 obtain⟨g,hg,g1,g2⟩:=JH hq
 rw[key]at hg
 obtain⟨j,hj,rfl⟩:=KC hg
 have hj:j<s.Procs.length:=hj
 rw[g1,← ha]
 have g2:q.2∈(FT ⟨m,s,j,false,DP m s⟩).1:=g2
 rw[Gf (h.pid (i:=(j:Int)) (t:=false) (a:=DP m s) ⟨by omega,by omega⟩).2]at g2
 exact⟨rfl,Int.natCast_nonneg j,by show(j:Int)<_;omega,g2⟩
theorem RD {e:D.Env}{w:Wy}(h:(Dl e w).Err=0):(goP e w).2.2=0:=by
 unfold Dl at h
 cases c1:decide ((goP e w).2.2≠0) with
 | true=>rw[c1,cond_true]at h;exact absurd h (of_decide_eq_true c1)
 | false=>simpa using c1
structure Aje (m:D.Model) (s:D.State) (i j:Int) (v w:Wy):Prop where
 i0:B5 (AD m s i)
 j0:B5 (AD m s j)
 v0:v∈AF (AD m s i)
 w0:w∈AF (AD m s j)
 vz:(goP (AD m s i) v).2.2=0
 wz:(goP (AD m s j) w).2.2=0
 vw:v.With=-1/\v.WithEsc=-1/\v.WithWay=-1/\v.Err=0
 we:w.Err=0
 j1:B5 (AD m (BH (goP (AD m s i) v).1) j)
 i1:B5 (AD m (BH (goP (AD m s j) w).1) i)
 v1:v∈AF (AD m (BH (goP (AD m s j) w).1) i)
 w1:w∈AF (AD m (BH (goP (AD m s i) v).1) j)
 wz1:(goP (AD m (BH (goP (AD m s i) v).1) j) w).2.2=0
 vz1:(goP (AD m (BH (goP (AD m s j) w).1) i) v).2.2=0
 same:BH (goP (AD m (BH (goP (AD m s i) v).1) j) w).1=BH (goP (AD m (BH (goP (AD m s j) w).1) i) v).1
theorem XP {e:D.Env}{w:Wy}(h:(goP e w).2.2=0):w.Err=0:=by
 unfold goP goE at h
 cases c1:decide (w.Err≠0) with
 | true=>rw[c1,cond_true]at h;exact absurd h (of_decide_eq_true c1)
 | false=>simpa using c1
theorem Ach (h:Gs m s)(hA:Adm m){i:Nat}(hi:i<s.Procs.length)(hs:DV m (AN m (s.Procs.getD i default).Type_) ((AN m (s.Procs.getD i default).Type_).Locs.getD (s.Procs.getD i default).Loc.toNat default)=true)
  {p q:D.Env × Wy} (hp:p∈GC m s) (hq:q∈GC m s) (p1:p.1.Pid=i) (q1:q.1.Pid≠i) (q2:q.2.With≠i) (pz:(Dl p.1 p.2).Err=0) (qz:(Dl q.1 q.2).Err=0):Aje m s i q.1.Pid p.2 q.2:=by
 obtain⟨pe,v⟩:=p
 obtain⟨qe,w⟩:=q
 obtain⟨sa0,nt0,sn0,out0⟩:=YU h hi (t:=false) (a:=Cp m s s.Procs.length) hs
 obtain⟨sa,nt,sn,out⟩:=YU h hi (t:=false) (a:=[]) hs
 obtain⟨a1,a2,a3,a4⟩:=Rc h hi sa0 hp p1 hp
 obtain⟨b1,b2,b3,b4⟩:=Rc h hi sa0 hp p1 hq
 simp only at p1 q1 q2 a1 a2 a3 a4 b1 b2 b3 b4 pz qz ⊢
 generalize hj:qe.Pid=j at q1 b1 b2 b3 ⊢
 rw[p1]at a1 a3
 subst a1 b1
 have pd:=fun{s':D.State} (h':Gs m s') {k:Int} (t:Bool) (a:List Bool) (hk:0<=k/\k<s'.Procs.length)=>(h'.pid (i:=k) (t:=t) (a:=a) hk).1
 have hI:0<=(i:Int)/\(i:Int)<s.Procs.length:=⟨by omega,a3⟩
 have hJ:0<=j/\j<s.Procs.length:=⟨b2,b3⟩
 have oI:IC ⟨m,s,i,false,Cp m s s.Procs.length⟩ (AD m s i):=⟨rfl,rfl,pd h _ _ hI,pd h _ _ hI,rfl⟩
 have gv:=XO oI sa0 (pr:=Ct) a4 (RD pz)
 have v0:v∈AF (AD m s i):=by rw[(Hp oI sa0).1];exact a4
 have vz:(goP (AD m s i) v).2.2=0:=gv.1
 obtain⟨x1,x2,x3,x4,x5,x6⟩:=(Hp (IC.mk rfl rfl (pd h _ _ hI) (pd h _ _ hI) rfl:IC (AD m s i) (AD m s i)) sa).2 v v0
 have jn:j≠(i:Int):=q1
 have oJ:Oth i ⟨m,s,j,false,Cp m s s.Procs.length⟩ (AD m s j) :=
  ⟨rfl,rfl,rfl,rfl,rfl,rfl,rfl,hi,fun _ _=>rfl,rfl,b2,jn,⟨h.fits.l,h.fits.a⟩,⟨h.fits.l,h.fits.a⟩,h.at hi,h.at hi⟩
 have none:∀ {s':D.State} {t:Bool} {a:List Bool} {k:Int},s'.Procs.getD i default=s.Procs.getD i default->∀ c l,DO (Bq ⟨m,s',k,t,a⟩ i) c l=[]:=fun{s' t a k} hq c l=>by
  refine Qy ?_ c l
  have:Br (Bq ⟨m,s',k,t,a⟩ i)=Br ⟨m,s,i,false,[]⟩:=by
   show(AN m (s'.Procs.getD i default).Type_).Locs.getD (s'.Procs.getD i default).Loc.toNat default=_
   rw[hq]
   rfl
  rw[this]
  exact nt
 have w0:w∈AF (AD m s j):=by
  rw[QN hA oJ fun c _ l=>.inl (QW hA oJ (none rfl) (none rfl) c l)]
  exact b4
 have hend:∀ {a:List Bool},w∈AF ⟨m,s,j,false,a⟩->w.Err=0->w.Way<0->j=(s.Procs.length:Int) - 1:=fun hw he hn=>Pm hw hn he
 have gq:=Afe hA oJ (pr:=Ct) q2 (hend b4 (XP (RD qz))) (RD qz)
 have wz:(goP (AD m s j) w).2.2=0:=gq.1
 have we:w.Err=0:=XP wz
 obtain⟨_,P,to,hP,_,ty,lo,hto⟩:=XO (IC.mk rfl rfl (pd h _ _ hI) (pd h _ _ hI) rfl:IC (AD m s i) (AD m s i)) sa (pr:=Ct) v0 vz
 have hP:(goP (AD m s i) v).1={ s with Procs:=s.Procs.set i P,Last:=i }:=hP
 have gP:Gs m (BH (goP (AD m s i) v).1):=Si (Pf (pd h _ _ hI) v0 vz)
 have atP:∀ k:Nat,(BH (goP (AD m s i) v).1).Procs.getD k default=if k=i then P else s.Procs.getD k default:=fun k=>by
  rw[hP]
  show(s.Procs.set i P).getD k default=_
  rw[CZ]
  by_cases hk:i=k
  ·subst hk;rw[if_pos ⟨rfl,hi⟩,if_pos rfl]
  ·rw[if_neg (fun h=>hk h.1),if_neg (fun h=>hk h.symm)]
 have lenP:(BH (goP (AD m s i) v).1).Procs.length=s.Procs.length:=by rw[hP];show(s.Procs.set i P).length=_;rw[List.length_set]
 have Nu:(AN m P.Type_).Locs.getD P.Loc.toNat default=(BQ (AD m s i)).Locs.getD (BG (AD m s i) v).To.toNat default:=by
  rw[ty,lo,hto]
  rfl
 obtain⟨n1,n2⟩:=out _ x6
 have oP:Oth i (AD m s j) (AD m (BH (goP (AD m s i) v).1) j):=by
  refine⟨rfl,rfl,rfl,by rw[hP];rfl,by rw[hP];rfl,by rw[hP];rfl,lenP,hi,fun k hk=>by rw[show(AD m (BH (goP (AD m s i) v).1) j).S=BH (goP (AD m s i) v).1 from rfl,atP,if_neg hk];rfl,?_,b2,jn,⟨h.fits.l,h.fits.a⟩,⟨gP.fits.l,gP.fits.a⟩,h.at hi,gP.at (by rw[lenP];exact hi)⟩
  have e1:J5 (AD m (BH (goP (AD m s i) v).1) j) i=((AN m P.Type_).Locs.getD P.Loc.toNat default).Progress:=by
   unfold J5
   rw[show(AD m (BH (goP (AD m s i) v).1) j).S.Procs.getD i default=P by rw[show(AD m (BH (goP (AD m s i) v).1) j).S=BH (goP (AD m s i) v).1 from rfl,atP,if_pos rfl]]
   rfl
  have e2:J5 (AD m s j) i=(Br (AD m s i)).Progress:=rfl
  have f1:∀ {l:D.Loc},ES l=false->l.Progress=false:=fun{l} hl=>by
   unfold ES at hl
   simp only[Bool.or_eq_false_iff]at hl
   exact hl.2.2.2
  rw[e1,e2,Nu]
  exact(f1 n1).trans (f1 sn).symm
 have hm:∀ c,Ny (AD m s j) c->∀ l,Bm (AD m (BH (goP (AD m s i) v).1) j) c l=Bm (AD m s j) c l∨0<(BW (AD m s j).M (BP (AD m s j) c).Shape).Room:=fun c hc l=>by
  unfold Gw at n2
  cases hr:It m with
  | false=>exact .inr (Ads hc hr)
  | true =>
   rw[hr,Bool.true_and]at n2
   refine .inl (QW hA oP (none rfl) (fun c l=>Qy ?_ c l) c l)
   have:Br (Bq (AD m (BH (goP (AD m s i) v).1) j) i)=(BQ (AD m s i)).Locs.getD (BG (AD m s i) v).To.toNat default:=by
    rw[← Nu]
    show(AN m ((BH (goP (AD m s i) v).1).Procs.getD i default).Type_).Locs.getD ((BH (goP (AD m s i) v).1).Procs.getD i default).Loc.toNat default=_
    rw[atP,if_pos rfl]
   rw[this]
   exact ZL n2
 have w1:w∈AF (AD m (BH (goP (AD m s i) v).1) j):=by rw[QN hA oP hm];exact w0
 obtain⟨wz1,oS,kq,kp⟩:=Afe hA oP (pr:=Ct) q2 (hend w0 we) wz
 have gQ:Gs m (BH (goP (AD m s j) w).1):=Si (Pf (pd h _ _ hJ) w0 wz)
 have hiQ:(i:Int)<(BH (goP (AD m s j) w).1).Procs.length:=by have:=oS.il;show(i:Int)<((goP (AD m s j) w).1.Procs.length:Int);unfold goP;omega
 have oQ:IC (AD m s i) (AD m (BH (goP (AD m s j) w).1) i):=⟨rfl,rfl,pd h _ _ hI,pd gQ _ _ ⟨by omega,hiQ⟩,kq⟩
 have v1:v∈AF (AD m (BH (goP (AD m s j) w).1) i):=by rw[(Hp oQ sa).1];exact v0
 obtain⟨vz1,P',to',hP1,hP2,_,_,_⟩:=XO oQ sa (pr:=Ct) v0 vz
 have hPP:P'=P:=by
  have e1:(goP (AD m s i) v).1.Procs.getD i default=P':=by
   rw[show(goP (AD m s i) v).1=_ from hP1]
   show(s.Procs.set i P').getD i default=P'
   rw[CZ,if_pos ⟨rfl,hi⟩]
  have e2:(goP (AD m s i) v).1.Procs.getD i default=P:=by
   rw[hP]
   show(s.Procs.set i P).getD i default=P
   rw[CZ,if_pos ⟨rfl,hi⟩]
  exact e1.symm.trans e2
 subst hPP
 refine⟨pd h _ _ hI,pd h _ _ hJ,v0,w0,vz,wz,⟨x1,x2,x3,XP vz⟩,we,pd gP _ _ ⟨b2,by rw[lenP];exact b3⟩,pd gQ _ _ ⟨by omega,hiQ⟩,v1,w1,wz1,vz1,?_⟩
 have hP2:(goP (AD m (BH (goP (AD m s j) w).1) i) v).1={ BH (goP (AD m s j) w).1 with Procs:=(goP (AD m s j) w).1.Procs.set i P',Last:=i }:=hP2
 rw[hP2]
 have procs:(goP (AD m (BH (goP (AD m s i) v).1) j) w).1.Procs=(goP (AD m s j) w).1.Procs.set i P':=by
  refine List.ext_getElem (by rw[List.length_set];exact oS.len) fun k h1 h2=>?_
  have hk:∀ {l:List D.Process} (hl:k<l.length),l[k]=l.getD k default:=fun hl=>by simp[List.getD,hl]
  rw[hk h1,hk h2,CZ]
  by_cases hki:i=k
  ·subst hki
   rw[if_pos ⟨rfl,oS.il⟩]
   refine kp.trans ?_
   show(BH (goP (AD m s i) v).1).Procs.getD i default=P'
   rw[atP,if_pos rfl]
  ·rw[if_neg fun h=>hki h.1]
   exact oS.ps k fun h=>hki h.symm
 exact AeQ oS.g oS.c procs oS.cl
end
def Y9 (p:D.Process)(id:Nat):List VV:=[Aa p.Type_,Aa p.Loc,Aa p.Prio,.ow id 0 p.Frame.length]
def obK (s:D.State)(w id:Nat):Ob:=.kar 0 s.Procs.length 4 w (Y9 (s.Procs.getD w default) id) (C9 s.Procs)
def obF (p:D.Process):Ob:=.arr true 0 p.Frame.length 1 (AJ p.Frame)
def Aja (s:D.State):List VV:=AQ s (.ow 0 0 s.Globals.length) (.ow 1 0 s.Chans.length) (.ow 2 0 s.Procs.length)
def Ac8 : Shp:={ α:=D.State × Nat,enc:=fun y=>([obG y.1,obC y.1,obK y.1 y.2 3,obF (y.1.Procs.getD y.2 default)],.agg (Aja y.1)) }
def Aji (f:FuncId):Shp:=bif Nat.beq f 52 then Ac8 else B2 f
def AcY (s:D.State)(cs:List D.Chan)(ps:List D.Process)(w:Nat)(k:Int):St:=Av [(1,.bp 0 0),(2,.bp 1 0),(3,.bp 2 0),(8,Aa k)] [.box (Ae s),.box DU,.box (AQ s (.ow 3 0 s.Globals.length) (.ow 4 0 cs.length) (.ow 5 0 ps.length)),obG s,.arr true 0 cs.length 2 (CL cs),.kar 0 ps.length 4 w [] (C9 ps)]
def AcX (s:D.State)(cs:List D.Chan)(ps:List D.Process)(w:Nat)(p:D.Process)(k:Int):St:=Av [(1,.bp 0 0),(2,.bp 1 0),(3,.bp 2 0),(8,Aa k)] [.box (Ae s),.box DU,.box (AQ s (.ow 3 0 s.Globals.length) (.ow 4 0 cs.length) (.ow 5 0 ps.length)),obG s,.arr true 0 cs.length 2 (CL cs),.kar 0 ps.length 4 w (Y9 p 6) (C9 ps),obF p]
set_option maxRecDepth 100000
theorem W4 (hs':List Ob)(r:VV)(s:D.State)(cs:List D.Chan)(ps:List D.Process)(w:Nat)(k:Int)(J:St->Prop):((Df Tryz.prog tb B2 DS false Tryz.f52 hs' (r)).loop [1,1,1,1,0,1,0] J).goal (AcY s cs ps w k) =
  (BB (decide (k<(↑s.Procs.length:Int))) (inX k s.Procs.length/\inX k s.Procs.length/\(s.Procs.getD k.toNat default).Frame.length*8<=140737488355328/\(∀ (i:Nat),i<(s.Procs.getD k.toNat default).Frame.length->(AJ (s.Procs.getD k.toNat default).Frame i).all VV.mem1=true)/\(ps.length+1)*48<=140737488355328/\ps.length=w/\J (Av [(1,VV.bp 0 0),(2,VV.bp 1 0),(3,VV.bp 2 0),(8,Aa (IntKind.i64.wrap (k+(1:Int))))] [Ob.box (Ae s),Ob.box [VV.nl,VV.nl,VV.nl,Aa 0,Aa 0,Aa 0],Ob.box (AQ s (VV.ow 3 0 s.Globals.length) (VV.ow 4 0 cs.length) (VV.ow 5 0 (ps.length+1))),obG s,Ob.arr true 0 cs.length 2 (CL cs),Ob.kar 0 (ps.length+1) 4 w [Aa (s.Procs.getD k.toNat default).Type_,Aa (s.Procs.getD k.toNat default).Loc,Aa (s.Procs.getD k.toNat default).Prio,VV.ow 6 0 (s.Procs.getD k.toNat default).Frame.length] (C9 ps),obF (s.Procs.getD k.toNat default)])) (leO [obG s,Ob.arr true 0 cs.length 2 (CL cs),Ob.kar 0 ps.length 4 w [] (C9 ps)] hs'/\(VV.agg (AQ s (VV.ow 0 0 s.Globals.length) (VV.ow 1 0 cs.length) (VV.ow 2 0 ps.length))).le r)):=by kernel_rfl
theorem W3 (hs':List Ob)(r:VV)(s:D.State)(cs:List D.Chan)(ps:List D.Process)(w:Nat)(p:D.Process)(k:Int)(J:St->Prop):((Df Tryz.prog tb B2 DS false Tryz.f52 hs' (r)).loop [1,1,1,1,0,1,0] J).goal (AcX s cs ps w p k) =
  (BB (decide (k<(↑s.Procs.length:Int))) (inX k s.Procs.length/\inX k s.Procs.length/\(s.Procs.getD k.toNat default).Frame.length*8<=140737488355328/\(∀ (i:Nat),i<(s.Procs.getD k.toNat default).Frame.length->(AJ (s.Procs.getD k.toNat default).Frame i).all VV.mem1=true)/\(ps.length+1)*48<=140737488355328/\w<ps.length/\J (Av [(1,VV.bp 0 0),(2,VV.bp 1 0),(3,VV.bp 2 0),(8,Aa (IntKind.i64.wrap (k+(1:Int))))] [Ob.box (Ae s),Ob.box [VV.nl,VV.nl,VV.nl,Aa 0,Aa 0,Aa 0],Ob.box (AQ s (VV.ow 3 0 s.Globals.length) (VV.ow 4 0 cs.length) (VV.ow 5 0 (ps.length+1))),obG s,Ob.arr true 0 cs.length 2 (CL cs),Ob.kar 0 (ps.length+1) 4 w [Aa p.Type_,Aa p.Loc,Aa p.Prio,VV.ow 6 0 p.Frame.length] fun(i:Nat)=>bif i.blt ps.length then AB (ps.getD i default) else(fun(i:Nat)=>(List.map (fun(x:List VV × List Nat)=>x.fst) [(AB (s.Procs.getD k.toNat default),List.flatMap (fun(x:VV × List Nat)=>x.snd) [(Aa (s.Procs.getD k.toNat default).Type_,[]),(Aa (s.Procs.getD k.toNat default).Loc,[]),(Aa (s.Procs.getD k.toNat default).Prio,[]),(Ad true (s.Procs.getD k.toNat default).Frame,[8])])]).getD i []) (i - ps.length),obF p])) (leO [obG s,Ob.arr true 0 cs.length 2 (CL cs),Ob.kar 0 ps.length 4 w [Aa p.Type_,Aa p.Loc,Aa p.Prio,VV.ow 3 0 p.Frame.length] (C9 ps),obF p] hs'/\(VV.agg (AQ s (VV.ow 0 0 s.Globals.length) (VV.ow 1 0 cs.length) (VV.ow 2 0 ps.length))).le r)):=by kernel_rfl
theorem AaH (r:D.State × Int)(e:D.Env)(x v:Int):(fc Aji A5 Tryz.f90 [] (.tup [.agg (Ae r.1),Aa r.2])).goal (St.init [] [.agg (Ah e),Aa x,Aa v]) =
  (∃ (y:Int × Int × Int),VC 106 [VV.agg (Ah e),Aa x] (AcE y)/\BB (y.snd.snd != 0) (LQ (VV.tup [VV.agg [VV.nl,VV.nl,VV.nl,Aa 0,Aa 0,Aa 0],Aa y.snd.snd]) (VV.tup [VV.agg (Ae r.fst),Aa r.snd])) (∃ (y_1:D.State × Nat),Al Tryz.prog 52 [] [VV.agg (Ae e.S)] [obG y_1.fst,obC y_1.fst,obK y_1.fst y_1.snd 3,obF (y_1.fst.Procs.getD y_1.snd default)] (VV.agg (AQ y_1.fst (VV.ow 0 0 y_1.fst.Globals.length) (VV.ow 1 0 y_1.fst.Chans.length) (VV.ow 2 0 y_1.fst.Procs.length)))/\BB (decide (y.fst<0)) (inX y.snd.fst e.M.Globals.length/\∃ (y_2:Int),VC 129 [VV.agg (Bs (e.M.Globals.getD y.snd.fst.toNat default)),Aa v] (Aa y_2)/\inX y.snd.fst y_1.fst.Globals.length/\LQ (VV.tup [VV.agg (AQ y_1.fst (VV.sl true y_1.fst.Globals.length 1 fun(j:Nat)=>bif j.beq y.snd.fst.toNat then[Aa y_2] else[Aa (y_1.fst.Globals.getD j 0)]) (AV true y_1.fst.Chans) (VV.sl true y_1.fst.Procs.length 4 fun(i:Nat)=>bif i.beq y_1.snd then[Aa (y_1.fst.Procs.getD y_1.snd default).Type_,Aa (y_1.fst.Procs.getD y_1.snd default).Loc,Aa (y_1.fst.Procs.getD y_1.snd default).Prio,Ad true (y_1.fst.Procs.getD y_1.snd default).Frame] else[Aa (y_1.fst.Procs.getD i default).Type_,Aa (y_1.fst.Procs.getD i default).Loc,Aa (y_1.fst.Procs.getD i default).Prio,Ad true (y_1.fst.Procs.getD i default).Frame])),Aa 0]) (VV.tup [VV.agg (Ae r.fst),Aa r.snd])) (inX y.fst y_1.fst.Procs.length/\y.fst.toNat=y_1.snd/\inX y.fst y_1.fst.Procs.length/\y.fst.toNat=y_1.snd/\inX (y_1.fst.Procs.getD y_1.snd default).Type_ e.M.Procs.length/\inX y.snd.fst (e.M.Procs.getD (y_1.fst.Procs.getD y_1.snd default).Type_.toNat default).Frame.length/\∃ (y_2:Int),VC 129 [VV.agg (Bs ((e.M.Procs.getD (y_1.fst.Procs.getD y_1.snd default).Type_.toNat default).Frame.getD y.snd.fst.toNat default)),Aa v] (Aa y_2)/\inX y.snd.fst (y_1.fst.Procs.getD y_1.snd default).Frame.length/\LQ (VV.tup [VV.agg (KE y_1.fst (AV true y_1.fst.Chans) (VV.sl true y_1.fst.Procs.length 4 fun(i:Nat)=>bif i.beq y_1.snd then[Aa (y_1.fst.Procs.getD y_1.snd default).Type_,Aa (y_1.fst.Procs.getD y_1.snd default).Loc,Aa (y_1.fst.Procs.getD y_1.snd default).Prio,VV.sl true (y_1.fst.Procs.getD y_1.snd default).Frame.length 1 fun(j:Nat)=>bif j.beq y.snd.fst.toNat then[Aa y_2] else[Aa ((y_1.fst.Procs.getD y_1.snd default).Frame.getD j 0)]] else[Aa (y_1.fst.Procs.getD i default).Type_,Aa (y_1.fst.Procs.getD i default).Loc,Aa (y_1.fst.Procs.getD i default).Prio,Ad true (y_1.fst.Procs.getD i default).Frame])),Aa 0]) (VV.tup [VV.agg (Ae r.fst),Aa r.snd])))):=by kernel_rfl
end Go.Proofs.YtlhajmkjfcbhnaaGreat
namespace Go.Proofs.YtlhajmkjfcbhnaaGreat
open Go.RowKit
theorem Ua {s:D.State}(hf:Fit s){w:Nat}(hw:w<s.Procs.length):Al Tryz.prog 52 [] [.agg (Ae s)] [obG s,obC s,obK s w 3,obF (s.Procs.getD w default)] (.agg (Aja s)):=by
 have hp:=hf.p
 refine OR hf ?_
 have key:∀ k:Nat,k<=w->Up (fun st=>k<w/\st=Ql s s.Chans (s.Procs.take k) k∨k=w/\st=AcY s s.Chans (s.Procs.take k) w k∨w<k/\st=AcX s s.Chans (s.Procs.take k) w (s.Procs.getD w default) k) (Ql s s.Chans (s.Procs.take k) k):=fun k hk=>by
  rcases Nat.lt_or_ge k w with h | h
  ·exact Up.of (.inl ⟨h,rfl⟩)
  ·exact Up.mk (l':=[(1,.bp 0 0),(2,.bp 1 0),(3,.bp 2 0),(8,Aa k)]) (hs':=[.box (Ae s),.box DU,.box (AQ s (.ow 3 0 s.Globals.length) (.ow 4 0 s.Chans.length) (.ow 5 0 (s.Procs.take k).length)),obG s,.arr true 0 s.Chans.length 2 (CL s.Chans),.kar 0 (s.Procs.take k).length 4 w [] (C9 (s.Procs.take k))]) (AU _) ⟨Ob.le_refl _,Ob.le_refl _,Ob.le_refl _,Ob.le_refl _,Ob.le_refl _,Ob.le_kar0 (by rw[List.length_take];omega),trivial⟩ (.inr (.inl ⟨by omega,rfl⟩))
 have app:∀ (k:Nat),k<s.Procs.length->∀ i,i<(s.Procs.take (k+1)).length->(bif Nat.blt i (s.Procs.take k).length then AB ((s.Procs.take k).getD i default) else[AB (s.Procs.getD k default)].getD (i - (s.Procs.take k).length) [])=C9 (s.Procs.take (k+1)) i:=fun k hk i hi=>by
  have hpush:s.Procs.take (k+1)=s.Procs.take k++[s.Procs.getD k default]:=CU hk
  rw[hpush]at hi ⊢
  exact Bz (l:=s.Procs.take k) (r:=[s.Procs.getD k default]) (f:=AB) (d:=default) (F:=fun i=>AB ((s.Procs.take k).getD i default)) (G:=fun i=>[AB (s.Procs.getD k default)].getD i []) (fun i hi=>rfl) (fun i hi=>by
   obtain rfl:i=0:=by simpa using hi
   rfl) (by simpa using hi)
 have hlen:∀ k,k<s.Procs.length->(s.Procs.take (k+1)).length=(s.Procs.take k).length+1:=fun k hk=>by rw[List.length_take,List.length_take];omega
 refine AA Ai Aj (fun g st=>∃ k:Nat,k<=s.Procs.length/\g=s.Procs.length - k/\(k<w/\st=Ql s s.Chans (s.Procs.take k) k∨k=w/\st=AcY s s.Chans (s.Procs.take k) w k∨w<k/\st=AcX s s.Chans (s.Procs.take k) w (s.Procs.getD w default) k)) (by kernel_rfl) (by kernel_rfl)
  ⟨_,let ⟨st',h1,h2⟩:=key 0 (Nat.zero_le _);⟨st',h1,0,Nat.zero_le _,rfl,h2⟩⟩ ?_
 rintro g st ⟨k,hk,rfl,h⟩
 have hto:(k:Int).toNat=k:=by omega
 have hlk:(s.Procs.take k).length=k:=by simp;omega
 rcases h with⟨hlt,rfl⟩ | ⟨rfl,rfl⟩ | ⟨hlt,rfl⟩
 ·refine AY.raw (OS _ _ s s.Chans (s.Procs.take k) k _) ⟨fun _=>?_,fun hge=>?_⟩
  ·rw[hto]
   have hq:=hf.f _ (An (d:=default) (show k<s.Procs.length by omega))
   refine⟨⟨by omega,by omega⟩,⟨by omega,by omega⟩,by omega,fun _ _=>rfl,by rw[hlk];omega,s.Procs.length - (k+1),by omega,?_⟩
   rw[Ak (by omega)]
   obtain⟨st',h1,h2⟩:=key (k+1) hlt
   refine Up.cv (PZ.mk' (AU _) (l':=[(1,.bp 0 0),(2,.bp 1 0),(3,.bp 2 0),(8,Aa ((k+1:Nat):Int))])
    (hs':=[.box (Ae s),.box DU,.box (AQ s (.ow 3 0 s.Globals.length) (.ow 4 0 s.Chans.length) (.ow 5 0 (s.Procs.take (k+1)).length)),obG s,.arr true 0 s.Chans.length 2 (CL s.Chans),.arr true 0 (s.Procs.take (k+1)).length 4 (C9 (s.Procs.take (k+1)))]) ?_).cv ⟨st',h1,k+1,by omega,rfl,h2⟩
   have ha:=app k (by omega)
   rw[hlen k (by omega)]at ha ⊢
   exact⟨Ob.le_refl _,Ob.le_refl _,Ob.le_refl _,Ob.le_refl _,Ob.le_refl _,Ob.le_arr fun i hi=>AZ (ha i hi),trivial⟩
  ·have:=AI hge;omega
 ·refine AY.raw (W4 _ _ s s.Chans (s.Procs.take k) k k _) ⟨fun _=>?_,fun hge=>?_⟩
  ·rw[hto]
   have hq:=hf.f _ (An (d:=default) hw)
   refine⟨⟨by omega,by omega⟩,⟨by omega,by omega⟩,by omega,fun _ _=>rfl,by rw[hlk];omega,hlk,s.Procs.length - (k+1),by omega,?_⟩
   rw[Ak (by omega)]
   refine Up.mk (l':=[(1,.bp 0 0),(2,.bp 1 0),(3,.bp 2 0),(8,Aa ((k+1:Nat):Int))])
    (hs':=[.box (Ae s),.box DU,.box (AQ s (.ow 3 0 s.Globals.length) (.ow 4 0 s.Chans.length) (.ow 5 0 (s.Procs.take (k+1)).length)),obG s,.arr true 0 s.Chans.length 2 (CL s.Chans),.kar 0 (s.Procs.take (k+1)).length 4 k (Y9 (s.Procs.getD k default) 6) (C9 (s.Procs.take (k+1))),obF (s.Procs.getD k default)]) (AU _) ?_ ⟨k+1,by omega,rfl,.inr (.inr ⟨Nat.lt_succ_self k,rfl⟩)⟩
   have ha:=app k hw
   rw[hlen k hw]at ha ⊢
   refine⟨Ob.le_refl _,Ob.le_refl _,Ob.le_refl _,Ob.le_refl _,Ob.le_refl _,Ob.le_kar (fun i hi hne=>AZ ?_) (FJ _),Ob.le_refl _,trivial⟩
   rw[← ha i hi,show Nat.blt i (s.Procs.take k).length=true from Nat.ble_eq_true_of_le (by omega),cond_true]
   rfl
  ·have:=AI hge;omega
 ·refine AY.raw (W3 _ _ s s.Chans (s.Procs.take k) w (s.Procs.getD w default) k _) ⟨fun hlt2=>?_,fun hge=>?_⟩
  ·have hlt2':k<s.Procs.length:=by have:=AG hlt2;omega
   rw[hto]
   have hq:=hf.f _ (An (d:=default) hlt2')
   refine⟨⟨by omega,by omega⟩,⟨by omega,by omega⟩,by omega,fun _ _=>rfl,by rw[hlk];omega,by rw[hlk];exact hlt,s.Procs.length - (k+1),by omega,?_⟩
   rw[Ak (by omega)]
   refine Up.mk (l':=[(1,.bp 0 0),(2,.bp 1 0),(3,.bp 2 0),(8,Aa ((k+1:Nat):Int))])
    (hs':=[.box (Ae s),.box DU,.box (AQ s (.ow 3 0 s.Globals.length) (.ow 4 0 s.Chans.length) (.ow 5 0 (s.Procs.take (k+1)).length)),obG s,.arr true 0 s.Chans.length 2 (CL s.Chans),.kar 0 (s.Procs.take (k+1)).length 4 w (Y9 (s.Procs.getD w default) 6) (C9 (s.Procs.take (k+1))),obF (s.Procs.getD w default)]) (AU _) ?_ ⟨k+1,by omega,rfl,.inr (.inr ⟨by omega,rfl⟩)⟩
   have ha:=app k hlt2'
   rw[hlen k hlt2']at ha ⊢
   exact⟨Ob.le_refl _,Ob.le_refl _,Ob.le_refl _,Ob.le_refl _,Ob.le_refl _,Ob.le_kar (fun i hi hne=>AZ (ha i hi)) (FJ _),Ob.le_refl _,trivial⟩
  ·have hge2:s.Procs.length<=k:=by have:=AI hge;omega
   rw[List.take_of_length_le hge2]
   exact⟨⟨Ob.le_refl _,Ob.le_refl _,Ob.le_refl _,Ob.le_refl _,trivial⟩,VV.le_refl _⟩
theorem Zc {l:List Int}{k:Nat}{y:Int}:VV.le (.sl true l.length 1 fun j=>bif Nat.beq j k then[Aa y] else[Aa (l.getD j 0)]) (Ad true (l.set k y)):=by
 unfold Ad
 rw[List.length_set]
 refine VV.le_sl (.inl rfl) fun i hi=>AZ ?_
 rw[CZ]
 by_cases h:i=k
 ·subst h;rw[Nat.beq_refl,cond_true,if_pos ⟨rfl,hi⟩]
 ·rw[Bd h,cond_false,if_neg fun c=>h c.1.symm]
theorem AdV {l:List D.Process}{w:Nat}{q:D.Process}{r:List VV}(h:leL r (AB q)):VV.le (.sl true l.length 4 fun i=>bif Nat.beq i w then r else AB (l.getD i default)) (Ay true (l.set w q)):=by
 unfold Ay
 rw[List.length_set]
 refine VV.le_sl (.inl rfl) fun i hi=>?_
 rw[CZ]
 by_cases hw:i=w
 ·subst hw;rw[Nat.beq_refl,cond_true,if_pos ⟨rfl,hi⟩];exact h
 ·rw[Bd hw,cond_false,if_neg fun c=>hw c.1.symm];exact FJ _
theorem S4 : PJ:=by
 intro e x v h h0 h1 ho
 have hf:=h.ok.fit
 have hpl:=hf.p
 have hpid:=h.ok.pid
 have hp0:=h.p0
 have hgl:=h.ok.globals
 have hS:=OM (e:=e) (x:=x) (ev:=D0 e) h.ok ⟨h0,h1⟩ (Afn h.ok h0 h1) fun a ha hlt=>GX h.ok _ a ha (by omega) (by omega)
 have hin:=fun hz=>Qo (ev:=D0 e) h.ok h0 h1 hz
 have hst:BM e x v=bif decide ((Bl e (D0 e) (Ao e.M x)).2.2≠0) then(default,(Bl e (D0 e) (Ao e.M x)).2.2) else(IA e.M e.S (Bl e (D0 e) (Ao e.M x)).1 (Bl e (D0 e) (Ao e.M x)).2.1 v,0):=by
  unfold BM
  rw[Sm h.ok ⟨h0,h1⟩]<;>rfl
 generalize Bl e (D0 e) (Ao e.M x)=R at hS hin hst
 have hok:R.2.2=0->D1 (Be e x v)=(IA e.M e.S R.1 R.2.1 v,0):=fun hz=>by
  rw[decide_eq_false (fun hn=>hn hz),cond_false]at hst
  have hs:(BM e x v).2=0:=by rw[hst]
  rw[Fx (p:=Be e x v) hs]
  unfold Be stE
  rw[decide_eq_true hs,hst]<;>rfl
 have hwl:R.2.2=0->R.1.toNat<e.S.Procs.length:=fun hz=>by
  have:=hin hz
  rcases Int.lt_or_le R.1 0 with hn | hn
  ·omega
  ·have:=this.own hn;omega
 refine Ag Ai Aj Tryz.func90 (by kernel_rfl) rfl (AaH (D1 (Be e x v)) e x v) ⟨R,hS,fun hb=>?_,fun hb=>?_⟩
 ·have hb:R.2.2≠0:=by simpa using hb
  exact Ek (p:=Be e x v) (by unfold Be;rw[hst,decide_eq_true hb]<;>rfl) hb
 ·have hz:R.2.2=0:=by simpa using hb
  have hI:=hin hz
  rw[hok hz]
  refine⟨(e.S,R.1.toNat),Ua hf (hwl hz),fun hg=>?_,fun hg=>?_⟩
  ·have hg:R.1<0:=of_decide_eq_true hg
   have hk:=hI.glob hg
   refine⟨⟨hk.1,by omega⟩,_,F7 _ _,hk,trivial,?_⟩
   unfold IA
   rw[decide_eq_true hg,cond_true]
   have hproc:VV.le (.sl true e.S.Procs.length 4 fun i=>bif Nat.beq i R.1.toNat then AB (e.S.Procs.getD R.1.toNat default) else AB (e.S.Procs.getD i default)) (Ay true e.S.Procs):=VV.le_sl (.inl rfl) fun i _=>AZ (by
    by_cases hw:i=R.1.toNat
    ·rw[hw,Nat.beq_refl,cond_true]
    ·rw[Bd hw,cond_false])
   exact VV.le_tup ⟨VV.le_agg ⟨Zc,VV.le_refl _,hproc,VV.le_refl _,VV.le_refl _,VV.le_refl _,trivial⟩,VV.le_refl _,trivial⟩
  ·have hg':¬ R.1<0:=of_decide_eq_false hg
   have hk:=hI.own (by omega)
   have hmem:e.S.Procs.getD R.1.toNat default∈e.S.Procs:=An (hwl hz)
   obtain⟨f1,f2,f3,f4,_⟩:=DI (h.ok.proc hmem)
   have hpi:inX R.1 e.S.Procs.length:=⟨by omega,hk.1⟩
   have hfr:inX R.2.1 (e.S.Procs.getD R.1.toNat default).Frame.length:=⟨hk.2.1,hk.2.2⟩
   refine⟨hpi,rfl,hpi,rfl,f1,⟨hk.2.1,by have:=hfr.2;rw[f3]at this;exact this⟩,_,F7 _ _,hfr,trivial,?_⟩
   unfold IA
   rw[decide_eq_false hg',cond_false]
   exact VV.le_tup ⟨VV.le_agg ⟨VV.le_refl _,VV.le_refl _,AdV (q:=VJ e.M (e.S.Procs.getD R.1.toNat default) R.2.1 v) ⟨VV.le_refl _,VV.le_refl _,VV.le_refl _,Zc,trivial⟩,VV.le_refl _,VV.le_refl _,VV.le_refl _,trivial⟩,VV.le_refl _,trivial⟩
def VI (f:FuncId):Shp :=
 bif Nat.beq f 87||Nat.beq f 124||Nat.beq f 154||Nat.beq f 155 then Ajf else   AiS f
def MK : Ann:={ keep:=fun
  | [0,1,1,1]=>[0,1,5,6]
  | _=>[] }
def PE : Ann:={ keep:=fun
  | [0,0,1,1,1]=>[0,3,4]
  | _=>[] }
def AcQ (n b:Int)(s:ByteArray):St:=Av [(0,.sc (.int .u64 n)),(1,.sc (.int .u64 b)),(5,AS ⟨#[48,49,50,51,52,53,54,55,56,57,97,98,99,100,101,102]⟩),(6,AS s)] []
def Lq (m:Int)(s:ByteArray)(neg:Bool):St:=Av [(0,Aa m),(3,AS s),(4,Ac neg)] []
set_option maxRecDepth 100000
theorem V1 (r:ByteArray)(c v:Int):(fc VI A5 Tryz.f124 [] (AS r)).goal (St.init [] [.sc (.int .u8 c),Aa v]) =
  ((4294967296:Int)≠(0:Int)/\BB (c==117) (∃ (y:ByteArray),VC 154 [VV.sc (Value.int IntKind.u64 ((IntKind.u64.wrap v).tmod (4294967296:Int))),VV.sc (Value.int IntKind.u64 (10:Int))] (AS y)/\LQ (AS y) (AS r)) (BB (c==120) (∃ (y:ByteArray),VC 154 [VV.sc (Value.int IntKind.u64 ((IntKind.u64.wrap v).tmod (4294967296:Int))),VV.sc (Value.int IntKind.u64 (16:Int))] (AS y)/\LQ (AS y) (AS r)) (BB (c==111) (∃ (y:ByteArray),VC 154 [VV.sc (Value.int IntKind.u64 ((IntKind.u64.wrap v).tmod (4294967296:Int))),VV.sc (Value.int IntKind.u64 (8:Int))] (AS y)/\LQ (AS y) (AS r)) (BB (c==99) ((256:Int)≠(0:Int)/\true=true/\LQ (AS (DT 1 (EG [[VV.sc (Value.int IntKind.u8 (IntKind.u8.wrap (((IntKind.u64.wrap v).tmod (4294967296:Int)).tmod (256:Int))))]]))) (AS r)) (∃ (y:ByteArray),VC 155 [Aa v] (AS y)/\LQ (AS y) (AS r)))))):=by kernel_rfl
theorem Aax (r:ByteArray)(n b:Int):(fc VI MK Tryz.f154 [] (AS r)).goal (St.init [] [.sc (.int .u64 n),.sc (.int .u64 b)]) =
  (Aq (fc VI MK Tryz.f154 [] (AS r)) [1,1,1,0] (AcQ n b (⟨#[]⟩:ByteArray))):=by kernel_rfl
theorem Afz (r:ByteArray)(n:Int):(fc VI PE Tryz.f155 [] (AS r)).goal (St.init [] [Aa n]) =
  (Aq (fc VI PE Tryz.f155 [] (AS r)) [1,1,1,0,0] (Lq n (⟨#[]⟩:ByteArray) (decide (n<0)))):=by kernel_rfl
theorem Wl (r:ByteArray)(n b:Int)(s:ByteArray)(J:St->Prop):((fc VI MK Tryz.f154 [] (AS r)).loop [1,1,1,0] J).goal (AcQ n b s) =
  (b≠(0:Int)/\((0:Int)<=IntKind.i64.wrap (n.tmod b)/\IntKind.i64.wrap (n.tmod b)<=IntKind.i64.wrap (IntKind.i64.wrap (n.tmod b)+(1:Int))/\IntKind.i64.wrap (IntKind.i64.wrap (n.tmod b)+(1:Int))<=(↑(⟨#[(48:UInt8),(49:UInt8),(50:UInt8),(51:UInt8),(52:UInt8),(53:UInt8),(54:UInt8),(55:UInt8),(56:UInt8),(57:UInt8),(97:UInt8),(98:UInt8),(99:UInt8),(100:UInt8),(101:UInt8),(102:UInt8)]⟩:ByteArray).size:Int))/\(↑(((⟨#[(48:UInt8),(49:UInt8),(50:UInt8),(51:UInt8),(52:UInt8),(53:UInt8),(54:UInt8),(55:UInt8),(56:UInt8),(57:UInt8),(97:UInt8),(98:UInt8),(99:UInt8),(100:UInt8),(101:UInt8),(102:UInt8)]⟩:ByteArray).extract (IntKind.i64.wrap (n.tmod b)).toNat (IntKind.i64.wrap (IntKind.i64.wrap (n.tmod b)+(1:Int))).toNat).size+s.size):Int)<=(9223372036854775807:Int)/\b≠(0:Int)/\BB (IntKind.u64.wrap (n.tdiv b)==0) (LQ (AS ((⟨#[(48:UInt8),(49:UInt8),(50:UInt8),(51:UInt8),(52:UInt8),(53:UInt8),(54:UInt8),(55:UInt8),(56:UInt8),(57:UInt8),(97:UInt8),(98:UInt8),(99:UInt8),(100:UInt8),(101:UInt8),(102:UInt8)]⟩:ByteArray).extract (IntKind.i64.wrap (n.tmod b)).toNat (IntKind.i64.wrap (IntKind.i64.wrap (n.tmod b)+(1:Int))).toNat++s)) (AS r)) (J (AcQ (IntKind.u64.wrap (n.tdiv b)) b ((⟨#[(48:UInt8),(49:UInt8),(50:UInt8),(51:UInt8),(52:UInt8),(53:UInt8),(54:UInt8),(55:UInt8),(56:UInt8),(57:UInt8),(97:UInt8),(98:UInt8),(99:UInt8),(100:UInt8),(101:UInt8),(102:UInt8)]⟩:ByteArray).extract (IntKind.i64.wrap (n.tmod b)).toNat (IntKind.i64.wrap (IntKind.i64.wrap (n.tmod b)+(1:Int))).toNat++s)))):=by kernel_rfl
theorem Ab4 (r:ByteArray)(m:Int)(s:ByteArray)(neg:Bool)(J:St->Prop):((fc VI PE Tryz.f155 [] (AS r)).loop [1,1,1,0,0] J).goal (Lq m s neg) =
  ((10:Int)≠(0:Int)/\BB (decide (m.tmod (10:Int)<0)) (true=true/\(↑((DT 1 (EG [[VV.sc (Value.int IntKind.u8 (IntKind.u8.wrap (IntKind.i64.wrap ((48:Int)+IntKind.i64.wrap ((0:Int) - m.tmod (10:Int))))))]])).size+s.size):Int)<=(9223372036854775807:Int)/\(10:Int)≠(0:Int)/\BB (IntKind.i64.wrap (m.tdiv (10:Int))==0) (BB neg ((↑((⟨#[(45:UInt8)]⟩:ByteArray).size+(DT 1 (EG [[VV.sc (Value.int IntKind.u8 (IntKind.u8.wrap (IntKind.i64.wrap ((48:Int)+IntKind.i64.wrap ((0:Int) - m.tmod (10:Int))))))]])++s).size):Int)<=(9223372036854775807:Int)/\LQ (AS ((⟨#[(45:UInt8)]⟩:ByteArray)++(DT 1 (EG [[VV.sc (Value.int IntKind.u8 (IntKind.u8.wrap (IntKind.i64.wrap ((48:Int)+IntKind.i64.wrap ((0:Int) - m.tmod (10:Int))))))]])++s))) (AS r)) (LQ (AS (DT 1 (EG [[VV.sc (Value.int IntKind.u8 (IntKind.u8.wrap (IntKind.i64.wrap ((48:Int)+IntKind.i64.wrap ((0:Int) - m.tmod (10:Int))))))]])++s)) (AS r))) (J (Lq (IntKind.i64.wrap (m.tdiv (10:Int))) (DT 1 (EG [[VV.sc (Value.int IntKind.u8 (IntKind.u8.wrap (IntKind.i64.wrap ((48:Int)+IntKind.i64.wrap ((0:Int) - m.tmod (10:Int))))))]])++s) neg))) (true=true/\(↑((DT 1 (EG [[VV.sc (Value.int IntKind.u8 (IntKind.u8.wrap (IntKind.i64.wrap ((48:Int)+m.tmod (10:Int)))))]])).size+s.size):Int)<=(9223372036854775807:Int)/\(10:Int)≠(0:Int)/\BB (IntKind.i64.wrap (m.tdiv (10:Int))==0) (BB neg ((↑((⟨#[(45:UInt8)]⟩:ByteArray).size+(DT 1 (EG [[VV.sc (Value.int IntKind.u8 (IntKind.u8.wrap (IntKind.i64.wrap ((48:Int)+m.tmod (10:Int)))))]])++s).size):Int)<=(9223372036854775807:Int)/\LQ (AS ((⟨#[(45:UInt8)]⟩:ByteArray)++(DT 1 (EG [[VV.sc (Value.int IntKind.u8 (IntKind.u8.wrap (IntKind.i64.wrap ((48:Int)+m.tmod (10:Int)))))]])++s))) (AS r)) (LQ (AS (DT 1 (EG [[VV.sc (Value.int IntKind.u8 (IntKind.u8.wrap (IntKind.i64.wrap ((48:Int)+m.tmod (10:Int)))))]])++s)) (AS r))) (J (Lq (IntKind.i64.wrap (m.tdiv (10:Int))) (DT 1 (EG [[VV.sc (Value.int IntKind.u8 (IntKind.u8.wrap (IntKind.i64.wrap ((48:Int)+m.tmod (10:Int)))))]])++s) neg)))):=by kernel_rfl
end Go.Proofs.YtlhajmkjfcbhnaaGreat
namespace Go.Proofs.YtlhajmkjfcbhnaaGreat
open Go.RowKit
theorem Pv (k:Int):DT 1 (EG [[VV.sc (Value.int IntKind.u8 k)]])=⟨#[UInt8.ofNat k.toNat]⟩:=rfl
theorem X3 {d:Int}(h0:0<=d)(h1:d<10):UInt8.ofNat (IntKind.u8.wrap (IntKind.i64.wrap (48+d))).toNat=UInt8.ofNat (48+d.toNat):=by
 rw[AL (by omega) (by omega)]
 have:IntKind.u8.wrap (48+d)=48+d:=IntWalk.u8_in _ ⟨by omega,by omega⟩
 rw[this]
 congr 1
 omega
theorem AfA {m:Int}{s:List UInt8}:Lib.decDigits m.natAbs++s=(if m.tdiv 10=0 then[] else Lib.decDigits (m.tdiv 10).natAbs)++(UInt8.ofNat (48+(m.natAbs % 10))::s):=by
 have e:(m.tdiv 10).natAbs=m.natAbs / 10:=by rw[Int.natAbs_tdiv];rfl
 rw[Lib.decDigits]
 split
 ·rename_i h
  have:m.tdiv 10=0:=by
   have:(m.tdiv 10).natAbs=0:=by omega
   omega
  rw[if_pos this,Nat.mod_eq_of_lt h];rfl
 ·rename_i h
  have:m.tdiv 10≠0:=by
   intro h0
   rw[h0]at e
   simp at e
   omega
  rw[if_neg this,e]
  simp
theorem Ku (l:List UInt8)(s:ByteArray):(⟨l.toArray⟩:ByteArray)++s=⟨(l++s.data.toList).toArray⟩:=by
 apply ByteArray.ext
 simp[ByteArray.data_append]
theorem AfB {n:Int}(hn:I64 n):Al Tryz.prog 155 [] [Aa n] [] (AS (J8 n)):=by
 obtain⟨hn0,hn1⟩:=hn
 refine Ag Ai Aj Tryz.func155 (by kernel_rfl) rfl (Afz (J8 n) n) ?_
 change Aq _ [1,1,1,0,0] (Lq n ⟨#[]⟩ (decide (n<0)))
 refine AA Ai Aj (fun g st=>∃ (m:Int) (s:List UInt8),I64 m/\g=m.natAbs/\Lib.decDigits m.natAbs++s=Lib.decDigits n.natAbs/\s.length<=40/\(s=[]∨m≠0)/\st=Lq m ⟨s.toArray⟩ (decide (n<0)))
  (by kernel_rfl) (by kernel_rfl) ⟨_,Up.of ⟨n,[],⟨hn0,hn1⟩,rfl,by simp,by simp,.inl rfl,rfl⟩⟩ ?_
 rintro g st ⟨m,s,⟨hm0,hm1⟩,rfl,hd,hsl,hor,rfl⟩
 have hlen:(Lib.decDigits n.natAbs).length<=20:=by
  rw[Lib.decDigits_length]
  exact Lib.nDigits_le20 _ (by omega)
 have ea:(m.tdiv 10).natAbs=m.natAbs / 10:=by rw[Int.natAbs_tdiv];rfl
 have eb:(m.tmod 10).natAbs=m.natAbs % 10:=by rw[Int.natAbs_tmod];rfl
 have ec:=Int.tmod_add_mul_tdiv m 10
 have hmod:m.tmod 10=if m<0 then -((m.natAbs % 10:Nat):Int) else((m.natAbs % 10:Nat):Int):=by
  split<;>omega
 have hdv:-9223372036854775808<=m.tdiv 10/\m.tdiv 10<=9223372036854775807:=by omega
 have step:=AfA (m:=m) (s:=s)
 have hsl':s.length+1<=21:=by
  have:=congrArg List.length hd
  have h1:1<=(Lib.decDigits m.natAbs).length:=by rw[Lib.decDigits_length];exact Lib.nDigits_pos _
  rw[List.length_append]at this
  omega
 have size1:∀ c:UInt8,((⟨#[c]⟩:ByteArray)++⟨s.toArray⟩)=⟨(c::s).toArray⟩:=fun c=>by
  have:=Ku [c] ⟨s.toArray⟩
  simpa using this
 have fin:m.tdiv 10=0->UInt8.ofNat (48+(m.natAbs % 10))::s=Lib.decDigits n.natAbs:=fun h0=>by
  rw[← hd,step,if_pos h0];rfl
 have go:m.tdiv 10≠0->Lib.decDigits (m.tdiv 10).natAbs++(UInt8.ofNat (48+(m.natAbs % 10))::s)=Lib.decDigits n.natAbs:=fun h0=>by
  rw[← hd,step,if_neg h0]
 have itoa_neg:n<0->J8 n=⟨#[45]⟩++⟨(Lib.decDigits n.natAbs).toArray⟩:=fun h=>by
  unfold J8 Lib.itoa mk
  rw[if_pos h]
  have:=Ku [45] ⟨(Lib.decDigits n.natAbs).toArray⟩
  simpa using this.symm
 have itoa_pos:¬ n<0->J8 n=⟨(Lib.decDigits n.natAbs).toArray⟩:=fun h=>by
  unfold J8 Lib.itoa mk
  rw[if_neg h,show n.toNat=n.natAbs by omega]
 have key:∀ d:Int,0<=d->d<10->d.toNat=m.natAbs % 10->∀ (J:St->Prop),(∀ st',(∃ (m':Int) (s':List UInt8),I64 m'/\m'.natAbs<m.natAbs/\Lib.decDigits m'.natAbs++s'=Lib.decDigits n.natAbs/\s'.length<=40/\m'≠0/\st'=Lq m' ⟨s'.toArray⟩ (decide (n<0)))->J st') ->
   (true=true/\(((DT 1 (EG [[VV.sc (Value.int IntKind.u8 (IntKind.u8.wrap (IntKind.i64.wrap (48+d))))]])).size+(⟨s.toArray⟩:ByteArray).size:Nat):Int)<=9223372036854775807/\(10:Int)≠0 /\
    ((IntKind.i64.wrap (m.tdiv 10)==0)=true->(decide (n<0)=true->(((⟨#[45]⟩:ByteArray).size+(DT 1 (EG [[VV.sc (Value.int IntKind.u8 (IntKind.u8.wrap (IntKind.i64.wrap (48+d))))]])++⟨s.toArray⟩).size:Nat):Int)<=9223372036854775807/\leO [] [] /\
      (VV.sc (Value.string ((⟨#[45]⟩:ByteArray)++(DT 1 (EG [[VV.sc (Value.int IntKind.u8 (IntKind.u8.wrap (IntKind.i64.wrap (48+d))))]])++⟨s.toArray⟩)))).le (VV.sc (Value.string (J8 n)))) /\
     (decide (n<0)=false->leO [] []/\(VV.sc (Value.string (DT 1 (EG [[VV.sc (Value.int IntKind.u8 (IntKind.u8.wrap (IntKind.i64.wrap (48+d))))]])++⟨s.toArray⟩))).le (VV.sc (Value.string (J8 n))))) /\
    ((IntKind.i64.wrap (m.tdiv 10)==0)=false->J (Av [(0,VV.sc (Value.int IntKind.i64 (IntKind.i64.wrap (m.tdiv 10)))),(3,VV.sc (Value.string (DT 1 (EG [[VV.sc (Value.int IntKind.u8 (IntKind.u8.wrap (IntKind.i64.wrap (48+d))))]])++⟨s.toArray⟩))),(4,VV.sc (Value.bool (decide (n<0))))] []))):=by
  intro d h0 h1 h2 J hJ
  rw[Pv,X3 h0 h1,h2,AL hdv.1 hdv.2,size1]
  refine⟨rfl,?_,by decide,fun hz=>⟨fun hneg=>⟨?_,trivial,?_⟩,fun hpos=>⟨trivial,?_⟩⟩,fun hz=>hJ _ ⟨m.tdiv 10,_,hdv,?_,go ?_,by simp;omega,?_,rfl⟩⟩
  ·show((1+s.length:Nat):Int)<=_;omega
  ·show((1+(s.length+1):Nat):Int)<=_;omega
  ·rw[fin (by simpa using hz),itoa_neg (by simpa using hneg)];exact VV.le_refl _
  ·rw[fin (by simpa using hz),itoa_pos (by simpa using hpos)];exact VV.le_refl _
  ·have:m.tdiv 10≠0:=by simpa using hz
   have e:(m.tdiv 10).natAbs=m.natAbs / 10:=by rw[Int.natAbs_tdiv];rfl
   omega
  ·simpa using hz
  ·simpa using hz
 have hJ:∀ st',(∃ (m':Int) (s':List UInt8),I64 m'/\m'.natAbs<m.natAbs/\Lib.decDigits m'.natAbs++s'=Lib.decDigits n.natAbs/\s'.length<=40/\m'≠0/\st'=Lq m' ⟨s'.toArray⟩ (decide (n<0))) ->
   ∃ g',g'<m.natAbs/\Up (fun st=>∃ (m:Int) (s:List UInt8),I64 m/\g'=m.natAbs/\Lib.decDigits m.natAbs++s=Lib.decDigits n.natAbs/\s.length<=40/\(s=[]∨m≠0)/\st=Lq m ⟨s.toArray⟩ (decide (n<0))) st':=by
  rintro st' ⟨m',s',a1,a2,a3,a4,a5,a6⟩
  exact⟨_,a2,Up.of ⟨m',s',a1,rfl,a3,a4,.inr a5,a6⟩⟩
 refine AY.raw (Ab4 (J8 n) m ⟨s.toArray⟩ (decide (n<0)) _) ⟨by decide,fun hneg=>?_,fun hpos=>?_⟩
 ·have hneg':m.tmod 10<0:=by simpa using hneg
  have hm:m<0:=by
   rw[hmod]at hneg'
   split at hneg'
   ·assumption
   ·omega
  have hd2:IntKind.i64.wrap (0 - m.tmod 10)=((m.natAbs % 10:Nat):Int):=by
   rw[hmod,if_pos hm,AL (by omega) (by omega)];omega
  rw[hd2]
  exact key _ (by omega) (by omega) (by omega) _ hJ
 ·have hpos':0<=m.tmod 10:=by simpa using hpos
  have hd2:m.tmod 10=((m.natAbs % 10:Nat):Int):=by
   rw[hmod]at hpos' ⊢
   split at hpos'
   ·rename_i h;rw[if_pos h];omega
   ·rename_i h;rw[if_neg h]
  rw[hd2]
  exact key _ (by omega) (by omega) (by omega) _ hJ
theorem UY (d:Nat)(h:d<16):(⟨#[48,49,50,51,52,53,54,55,56,57,97,98,99,100,101,102]⟩:ByteArray).extract d (d+1)=⟨#[Sp d]⟩:=by
 match d,h with
 | 0,_=>rfl
 | 1,_=>rfl
 | 2,_=>rfl
 | 3,_=>rfl
 | 4,_=>rfl
 | 5,_=>rfl
 | 6,_=>rfl
 | 7,_=>rfl
 | 8,_=>rfl
 | 9,_=>rfl
 | 10,_=>rfl
 | 11,_=>rfl
 | 12,_=>rfl
 | 13,_=>rfl
 | 14,_=>rfl
 | 15,_=>rfl
 | n+16,h=>exact absurd h (by omega)
theorem Acd {b g n:Nat}(h:b<=n):Np b (g+1) n=Np b g (n / b)++[Sp (n % b)]:=by
 show(if n<b then _ else _)=_
 rw[if_neg (by omega)]
theorem Ace {b g n:Nat}(h:n<b):Np b (g+1) n=[Sp n]:=by
 show(if n<b then _ else _)=_
 rw[if_pos h]
theorem Kn {u b:Nat}(hu:u<4294967296)(hb1:8<=b)(hb2:b<=16):Al Tryz.prog 154 [] [.sc (.int .u64 u),.sc (.int .u64 b)] [] (AS (mk (LY b u))):=by
  refine Ag Ai Aj Tryz.func154 (by kernel_rfl) rfl (Aax (mk (LY b u)) u b) ?_
  change Aq _ [1,1,1,0] (AcQ u b ⟨#[]⟩)
  refine AA Ai Aj (fun g st=>∃ (n:Nat) (L:By),g=n/\L.length<=11/\n<8 ^ (11 - L.length)/\(L=[]∨n≠0)/\LY b u=Np b (64 - L.length) n++L/\st=AcQ n b ⟨L.toArray⟩) (by kernel_rfl) (by kernel_rfl)
    ⟨u,Up.of ⟨u,[],rfl,Nat.zero_le _,by show u<8 ^ 11;omega,.inl rfl,by rw[List.append_nil];rfl,rfl⟩⟩ ?_
  rintro n st ⟨_,L,rfl,hk,hn,hor,hE,rfl⟩
  have hp1:8 ^ (11 - L.length)<=8 ^ 11:=Nat.pow_le_pow_right (by decide) (Nat.sub_le _ _)
  have hp2:8 ^ 11<=8589934592:=by decide
  have hn33:n<8589934592:=Nat.lt_of_lt_of_le hn (Nat.le_trans hp1 hp2)
  have hmod:n % b<16:=Nat.lt_of_lt_of_le (Nat.mod_lt _ (by omega)) hb2
  have hdl:n / b<=n:=Nat.div_le_self _ _
  have e1:IntKind.i64.wrap ((n:Int).tmod (b:Int))=((n % b:Nat):Int):=by
    rw[Int.tmod_eq_emod_of_nonneg (by omega),← Int.natCast_emod,AL (by omega) (by omega)]
  have e2:IntKind.i64.wrap (((n % b:Nat):Int)+1)=((n % b+1:Nat):Int):=by rw[AL (by omega) (by omega)];omega
  have e3:IntKind.u64.wrap ((n:Int).tdiv (b:Int))=((n / b:Nat):Int):=by
    rw[Int.tdiv_eq_ediv_of_nonneg (by omega),← Int.natCast_ediv,IntKind.wrap_u64]
    generalize n / b=q at hdl ⊢
    omega
  refine AY.raw (Wl _ n b ⟨L.toArray⟩ _) ?_
  rw[e1,e2,e3,show((n % b:Nat):Int).toNat=n % b from rfl,show((n % b+1:Nat):Int).toNat=n % b+1 from rfl,UY _ hmod]
  have hsz:((⟨#[Sp (n % b)]⟩:ByteArray)++⟨L.toArray⟩)=⟨(Sp (n % b)::L).toArray⟩:=by
    have:=Ku [Sp (n % b)] ⟨L.toArray⟩
    simpa using this
  rw[hsz]
  refine⟨by omega,⟨by omega,by omega,?_⟩,?_,by omega,fun hz=>⟨trivial,?_⟩,fun hz=>?_⟩
  · show((n % b+1:Nat):Int)<=16;omega
  · show((1+L.length:Nat):Int)<=_;omega
  · have h0:n / b=0:=by
      have:((n / b:Nat):Int)=0:=by simpa using hz
      omega
    have hlt:n<b:=by
      rcases Nat.lt_or_ge n b with h | h
      · exact h
      · have:=Nat.div_pos h (by omega);omega
    rw[hE,show 64 - L.length=63 - L.length+1 by omega,Ace hlt,Nat.mod_eq_of_lt hlt]
    exact VV.le_refl _
  · have h0:n / b≠0:=by
      intro h0
      rw[h0]at hz
      simp at hz
    have hge:b<=n:=by
      rcases Nat.lt_or_ge n b with h | h
      · rw[Nat.div_eq_of_lt h]at h0;exact absurd rfl h0
      · exact h
    have hl11:L.length<11:=by
      rcases Nat.lt_or_ge L.length 11 with h | h
      · exact h
      · rw[show 11 - L.length=0 by omega]at hn;simp at hn;omega
    refine⟨n / b,Nat.div_lt_self (by omega) (by omega),Up.of ⟨n / b,Sp (n % b)::L,rfl,by simp;omega,?_,.inr h0,?_,rfl⟩⟩
    · rw[show 11 - L.length=11 - (L.length+1)+1 by omega,Nat.pow_succ]at hn
      rw[List.length_cons]
      have h8:n / b<=n / 8:=Nat.div_le_div_left hb1 (by decide)
      have:n / 8<8 ^ (11 - (L.length+1)):=Nat.div_lt_of_lt_mul (by omega)
      omega
    · rw[hE,List.length_cons,show 64 - L.length=64 - (L.length+1)+1 by omega,Acd hge,List.append_assoc]
      rfl
theorem D4 {c:UInt8}{v:Int}(hv:I64 v):Al Tryz.prog 124 [] [.sc (.int .u8 (c.toNat:Int)),Aa v] [] (AS (mk (CO c v))):=by
 obtain⟨hv0,hv1⟩:=hv
 have el:(IntKind.u64.wrap v).tmod 4294967296=((Nt v:Nat):Int):=by
  rw[IntKind.wrap_u64,Int.tmod_eq_emod_of_nonneg (by omega)];unfold Nt;omega
 have hl:Nt v<4294967296:=by unfold Nt;omega
 have ec:∀ k:UInt8,((c.toNat:Int)==(k.toNat:Int))=true->c=k:=fun k h=>by
  have h2:(c.toNat:Int)=k.toNat:=by simpa using h
  exact UInt8.toNat_inj.1 (by omega)
 have en:∀ k:UInt8,((c.toNat:Int)==(k.toNat:Int))=false->c≠k:=fun k h e=>by rw[e]at h;simp at h
 refine Ag Ai Aj Tryz.func124 (by kernel_rfl) rfl (V1 (mk (CO c v)) c.toNat v) ?_
 rw[el]
 refine⟨by decide,fun h=>⟨mk (LY 10 (Nt v)),Kn (b:=10) hl (by decide) (by decide),trivial,?_⟩,fun n1=>⟨fun h=>⟨mk (LY 16 (Nt v)),Kn (b:=16) hl (by decide) (by decide),trivial,?_⟩,fun n2=>⟨fun h=>⟨mk (LY 8 (Nt v)),Kn (b:=8) hl (by decide) (by decide),trivial,?_⟩,fun n3=>⟨fun h=>⟨by decide,rfl,trivial,?_⟩,fun n4=>⟨J8 v,AfB ⟨hv0,hv1⟩,trivial,?_⟩⟩⟩⟩⟩
 ·rw[ec 117 h];exact VV.le_refl _
 ·rw[ec 120 h];exact VV.le_refl _
 ·rw[ec 111 h];exact VV.le_refl _
 ·rw[ec 99 h,Pv]
  have:UInt8.ofNat (IntKind.u8.wrap (((Nt v:Nat):Int).tmod 256)).toNat=UInt8.ofNat (v % 256).toNat:=by
   rw[Int.tmod_eq_emod_of_nonneg (by omega),IntWalk.u8_in _ ⟨by omega,by omega⟩]
   congr 1
   unfold Nt;omega
  rw[this]
  exact VV.le_refl _
 ·have h1:=en 117 n1
  have h2:=en 120 n2
  have h3:=en 111 n3
  have h4:=en 99 n4
  unfold CO
  rw[if_neg h1,if_neg h2,if_neg h3,if_neg h4]
  exact VV.le_refl _
abbrev P0 : A0:=⟨fun _=>False,fun _=>False,0,[]⟩
theorem Al.at {P:Program}{f:FuncId}{xs:List VV}{r:VV}(h:Al P f [] xs [] r){w0 w:World}{vs:Array Value}(hL:Nq w0)(hB:∀ k,k∈Sc->k<w0.heap.size)(hb:Below w0.heap.size w0 w)(hs:DM w P0 none xs vs) :
  Calls P f vs w fun e w'=>∃ v,e=.returned v/\Below w.heap.size w w'/\V w' P0 none r v :=
 h.start (hL.congr fun k hk=>hb.block k (hB k hk)) (fun k hk=>Nat.lt_of_lt_of_le (hB k hk) hb.size) hs
theorem Lu {w:World}{E:A0}{x y:VV}{u v:Value}(h1:V w E none x u)(h2:V w E none y v):DM w E none [x,y] #[u,v]:=by
 refine⟨rfl,fun j z hz=>?_⟩
 match j,hz with
 | 0,hz=>simp only[List.getElem?_cons_zero,Option.some.injEq]at hz;subst hz;exact h1
 | 1,hz=>simp only[List.getElem?_cons_succ,List.getElem?_cons_zero,Option.some.injEq]at hz;subst hz;exact h2
 | j+2,hz=>simp at hz
theorem Ag0 : (Tryz.prog.info? 5).map (fun i=>(i.zero,i.size,i.bytes))=some (some (.int .u8 0),1,1):=by kernel_rfl
section
variable {P : Program} (w:World)
theorem Ca {ops:Array Oper}{o:Oper}{a:Act}{K:Act->World->Prop}{Q:Exit->Act->World->Prop}{E:Prop}(hgd:o.guard=none)(sl x:Operand)(t u:TypeId)
  (ho:o.op=.call { callee:=.builtin .append,args:=#[sl,x],argTypes:=#[t,u] })
  (base:Nat) (e:TypeId) (i:TypeInfo) (ht:P.underlying t=some (.slice e)) (hu:P.underlying u=some .string) (hi:P.info? e=some i) (hz:i.zero=some (.int .u8 0))
  (hsize:i.size=1) (hby:i.bytes=1)
  (v:Value) (n:Nat) (xs:List Value) (hs:a.eval sl=v) (hown:w.ownsRow base e 1 v n xs) (s:ByteArray) (hx:a.eval x=.string s)
  (h63:n+s.size<=maxLen) (hbytes:n+s.size<=140737488355328) (hbase:base<=w.heap.size)
  (h:∀ v' w',w'.ownsRow base e 1 v' (n+s.size) (xs++Lib.strCells s)->w.grownBy w' v.ownBlock->K (a.put o.dst v') w') :
  if Region.wanted o (yielded ops a.tmps)=true then Oper.wp P o a w K Q else E:=by
 have hw:Region.wanted o (yielded ops a.tmps)=true:=by simp[Region.wanted,hgd]
 rw[if_pos hw]
 obtain⟨v',w',hr,h2,h3,_⟩:=Lib.run_append_own_string (P:=P) w base t u o.type e i ht hu hi hz hsize hby v n xs hown s h63 hbytes hbase
 unfold Oper.wp execOp
 simp only[ho,resolve,invoke,builtin,Sem.run_bind,Sem.run_pure,Result.andThen_ok,List.map_toArray,List.map_cons,List.map_nil,hs,hx,hr]
 exact h v' w' h2 h3
end
theorem Fe (T:By)(s:ByteArray):Lib.byteCells T++Lib.strCells s=Lib.byteCells (T++bs s):=by simp[Lib.byteCells,Lib.strCells,bs]
theorem Du {w w':World}{n0:Nat}{e:TypeId}{v:Value}{n:Nat}{xs:List Value}(h:w.ownsRow n0 e 1 v n xs)(hb:Below w.heap.size w w'):w'.ownsRow n0 e 1 v n xs:=R6 h fun k hk=>hb.block k (h.lt k hk).2
theorem AfC {w:World}{n0:Nat}{v:Value}{T:By}(h:w.ownsRow n0 5 1 v T.length (Lib.byteCells T)):(convert 192 9 v).run Tryz.prog w=.ok (.string (mk T)) w:=by
 rcases h.2 with⟨rfl,hn⟩ | ⟨g,cap,cur,rfl,hb,hg,h1,h2,_⟩
 ·have hT:T=[]:=by
   first
    | exact List.eq_nil_of_length_eq_zero hn
    | (cases T with | nil=>rfl | cons a r=>simp[Lib.byteCells]at hn)
  subst hT
  rw[run_convert_bytes_string w 192 9 5 none 0 0 Tryz.underlying192 Tryz.underlying5 Tryz.underlying9]
  rfl
 ·refine run_convert_bytes_back (P:=Tryz.prog) w 192 9 5 ⟨g,0,none⟩ cap T Tryz.underlying192 Tryz.underlying5 Tryz.underlying9 fun j hj=>?_
  rw[Addr.add_lit,Nat.zero_add,h.cellAt j (by simpa using hj)]
  simp[Lib.byteCells,hj]
structure RpI (w:World) (t:ByteArray) (l:List Int) (o:Value) (k j:Nat) (T:By) (W:World):Prop where
 hj:j<=t.size
 hk:k<=l.length
 len:T.length<=64*j
 eq:T++B6 ((bs t).drop j) (l.drop k)=B6 (bs t) l
 row:W.ownsRow w.heap.size 5 1 o T.length (Lib.byteCells T)
 bel:Below w.heap.size w W
set_option maxRecDepth 100000 in
set_option maxHeartbeats 16000000 in
theorem RS {w:World}{t:ByteArray}{l:List Int}{a:Option Addr}{cap:Nat}(hL:Nq w)(hlB:∀ k,k∈Sc->k<w.heap.size)(h1:l.length<=cap)(h2:cap<=maxLen)(ha:Aiv w a l)(hI:∀ n∈l,I64 n)(ht:t.size<=1099511627776) :
  Calls Tryz.prog 87 #[.string t,.slice a l.length cap] w fun e w'=>e=.returned (.string (Ct t l))/\Below w.heap.size w w':=by
 obtain⟨ki,khi,khz,khz1,khz2⟩:=UH Ag0
 have hcap:=h2
 unfold maxLen at hcap
 go_enter Tryz.func87,Tryz.ntmps87
 go_wp2
 go_loopw [5,6,7] (fun ov kv iv wr=>∃ (o:Value) (k j:Nat) (T:By),o=ov/\kv=.int .i64 k/\iv=.int .i64 j/\RpI w t l o k j T wr) (fun _ _ iv _=>t.size - (intOf iv).toNat)
 case atStart=>exact⟨_,0,0,[],rfl,rfl,rfl,Nat.zero_le _,Nat.zero_le _,Nat.zero_le _,rfl,World.ownsRow_nil _ _ _ _,Below.refl _ _⟩
 case round =>
  obtain⟨ov,k,j,T,rfl,rfl,rfl,hr⟩:=hrel
  obtain⟨hj,hk,hlen,heq,hrow,hbel⟩:=hr
  have hbs:=hbel.size
  by_cases hlt:j<t.size
  ·have hdk:=Zl hlt
   rw[hdk]at heq
   by_cases hA:(t[j]'hlt).toNat≠37∨j+1=t.size
   ·have hpg:B6 ((t[j]'hlt)::(bs t).drop (j+1)) (l.drop k)=(t[j]'hlt)::B6 ((bs t).drop (j+1)) (l.drop k):=Aes (hA.imp id fun h=>List.drop_of_length_le (by rw[← NR];omega))
    rw[hpg]at heq
    clear hpg hdk
    have next:∀ v' w3,w3.ownsRow w.heap.size 5 1 v' (T.length+1) (Lib.byteCells T++[.int .u8 ((t[j]'hlt).toNat:Int)])->((wr.alloc (.cells #[.int .u8 ((t[j]'hlt).toNat:Int)] 5)).grownBy w3 ov.ownBlock)->Hid (RpI w t l v' k (j+1) (T++[t[j]'hlt]) w3):=fun v' w3 ho hg =>
     ⟨by omega,hk,by simp;omega,by rw[← heq];simp,by simpa[Lib.byteCells] using ho,(hbel.alloc hbs _).grown hg (by simp;omega) fun b hb=>(hrow.lt b hb).1⟩
    by_cases hc:(t[j]'hlt).toNat=37
    ·have hk1:j+1=t.size:=by omega
     rw[hc,show((37:Nat):Int)=37 from rfl]at next
     go_wp2_with (at_builtin;refine wpList_append_own _ rfl _ _ 192 rfl w.heap.size 5 ki (.int .u8 0) 1 1 Tryz.underlying192 khi khz khz1 khz2 rfl (by decide) ov T.length (Lib.byteCells T) rfl ?qrow ⟨wr.heap.size,0,none⟩ 1 1 [.int .u8 37] rfl ?qc1 ?qc2 ?qc3 ?qc4 ?qc5 ?qc6 ?_)
     case qrow=>exact Du hrow (Ir _ _)
     case qc1=>rfl
     case qc2=>exact World.news_of_block (heap_alloc_new wr (.cells #[.int .u8 37] 5))
     case qc3=>intro u hu;simp at hu;subst hu;rfl
     case qc4=>unfold maxLen;omega
     case qc5=>omega
     case qc6=>simp;omega
     intro v2 w3 hown3 hgrow3 _
     have HR:=next v2 w3 hown3 hgrow3
     clear hown3 hgrow3 next hrow hbel heq
     go_wp2
     go_roundw
     case rel=>exact⟨v2,k,j+1,_,rfl,rfl,by go_num,HR.out⟩
     case measure=>simp[intOf];omega
    ·go_wp2_with (at_builtin;refine wpList_append_own _ rfl _ _ 192 rfl w.heap.size 5 ki (.int .u8 0) 1 1 Tryz.underlying192 khi khz khz1 khz2 rfl (by decide) ov T.length (Lib.byteCells T) rfl ?qrow ⟨wr.heap.size,0,none⟩ 1 1 [(.int .u8 ((t[j]'hlt).toNat:Int))] rfl ?qc1 ?qc2 ?qc3 ?qc4 ?qc5 ?qc6 ?_)
     case qrow=>exact Du hrow (Ir _ _)
     case qc1=>rfl
     case qc2=>exact World.news_of_block (heap_alloc_new wr (.cells #[(.int .u8 ((t[j]'hlt).toNat:Int))] 5))
     case qc3=>intro u hu;simp at hu;subst hu;rfl
     case qc4=>unfold maxLen;omega
     case qc5=>omega
     case qc6=>simp;omega
     intro v2 w3 hown3 hgrow3 _
     have HR:=next v2 w3 hown3 hgrow3
     clear hown3 hgrow3 next hrow hbel heq
     go_wp2
     go_roundw
     case rel=>exact⟨v2,k,j+1,_,rfl,rfl,by go_num,HR.out⟩
     case measure=>simp[intOf];omega
   ·have hc:(t[j]'hlt).toNat=37:=by omega
    have hk1:j+1<t.size:=by omega
    have hk2:¬ j+1=t.size:=by omega
    have hdk2:=Zl hk1
    rw[Ahw hc,hdk2]at heq
    clear hA hdk
    by_cases h37:(t[j+1]'hk1).toNat=37
    ·rw[Ahw h37,Ai2]at heq
     have next:∀ v' w3,w3.ownsRow w.heap.size 5 1 v' (T.length+1) (Lib.byteCells T++[.int .u8 37])->((wr.alloc (.cells #[.int .u8 37] 5)).grownBy w3 ov.ownBlock)->Hid (RpI w t l v' k (j+2) (T++[37]) w3):=fun v' w3 ho hg =>
      ⟨by omega,hk,by simp;omega,by rw[← heq];simp,by simpa[Lib.byteCells] using ho,(hbel.alloc hbs _).grown hg (by simp;omega) fun b hb=>(hrow.lt b hb).1⟩
     go_wp2_with (at_builtin;refine wpList_append_own _ rfl _ _ 192 rfl w.heap.size 5 ki (.int .u8 0) 1 1 Tryz.underlying192 khi khz khz1 khz2 rfl (by decide) ov T.length (Lib.byteCells T) rfl ?qrow ⟨wr.heap.size,0,none⟩ 1 1 [.int .u8 37] rfl ?qc1 ?qc2 ?qc3 ?qc4 ?qc5 ?qc6 ?_)
     case qrow=>exact Du hrow (Ir _ _)
     case qc1=>rfl
     case qc2=>exact World.news_of_block (heap_alloc_new wr (.cells #[.int .u8 37] 5))
     case qc3=>intro u hu;simp at hu;subst hu;rfl
     case qc4=>unfold maxLen;omega
     case qc5=>omega
     case qc6=>simp;omega
     intro v2 w3 hown3 hgrow3 _
     have HR:=next v2 w3 hown3 hgrow3
     clear hown3 hgrow3 next hrow hbel heq
     go_wp2
     go_roundw
     case rel=>exact⟨v2,k,j+2,_,rfl,rfl,by go_num,HR.out⟩
     case measure=>simp[intOf];omega
    ·by_cases hsh:GA (t[j+1]'hk1)=true
     ·rw[AgD h37 hsh]at heq
      by_cases hkl:k<l.length
      ·have hdl:l.drop k=l.getD k 0::l.drop (k+1):=by rw[List.drop_eq_getElem_cons hkl];simp[List.getD,hkl]
       rw[hdl]at heq
       obtain⟨bb,off,rfl,hbb,hcs⟩:=ha (by omega)
       have hcell:=hcs k hkl
       rw[← hbel.cell (p:=⟨bb,off+k,none⟩) hbb]at hcell
       have hbw:bb<wr.heap.size:=by omega
       have hIn:=hI _ (An (d:=(0:Int)) hkl)
       clear hdl hcs
       generalize l.getD k 0=n at *
       have hsz:=Qp (c:=t[j+1]'hk1) hIn
       rw[B7]at hsz
       have e1:((n::l.drop (k+1)).take 1).flatMap (CO (t[j+1]'hk1))=CO (t[j+1]'hk1) n:=by simp
       rw[e1,List.tail_cons]at heq
       clear e1
       rcases Ow hsh with hd | hd | hd | hd | hd | hd | hd
       ·rw[show t[j+1]'hk1=100 from UInt8.toNat_inj.1 hd]at heq hsz
        have HS:Al Tryz.prog 124 [] [.sc (.int .u8 100),Aa n] [] (AS (mk (CO 100 n))):=D4 (c:=100) hIn
        clear hdk2 hsh
        go_wp2
        have b1:(0:Int)<=(j:Int)+1:=by omega
        have b2:(j:Int)+1<(t.size:Int):=by omega
        have b3:(0:Int)<=(k:Int):=by omega
        have b4:(k:Int)<(l.length:Int):=by omega
        go_region_law (first
          | (refine Ca _ rfl (.tmp 59) (.tmp 67) 192 9 rfl w.heap.size 5 ki Tryz.underlying192 Tryz.underlying9 khi khz khz1 khz2 ov T.length (Lib.byteCells T) (by simp[Act.eval]) hrow2 (mk (CO 100 n)) (by simp[Act.eval]) (by unfold maxLen;rw[B7];omega) (by rw[B7];omega) (by omega) ?_;intro v3 w3 hown3 hgrow3;have y3:w3.cell? ⟨bb,off+k,none⟩=some (.int .i64 n):=(hgrow3.cell_far ⟨bb,off+k,none⟩ hbb2 (fun e=>by have:=(hrow.lt bb e.symm).1;omega)).trans y2)
          | (go_simp;go_at_call 124;refine(HS.at hL hlB (below_drewN hbel 1) (Lu .sc .sc)).mono ?_;rintro r w2 ⟨u,rfl,hb2,hu⟩;obtain rfl:=hu.sc_inv;have hb2':Below wr.heap.size wr w2:=⟨hb2.os,hb2.tape,hb2.output,hb2.size,hb2.block⟩;have hz2:=hb2'.size;have hrow2:=Du hrow hb2';have y2:w2.cell? ⟨bb,off+k,none⟩=some (.int .i64 n):=(hb2'.cell (p:=⟨bb,off+k,none⟩) hbw).trans hcell;have hbb2:(⟨bb,off+k,none⟩:Addr).block<w2.heap.size:=Nat.lt_of_lt_of_le hbw hz2))
        all_goals
         have HR:Hid (RpI w t l v3 (k+1) (j+2) (T++CO 100 n) w3):=⟨by omega,hkl,by rw[List.length_append];omega,by rw[← heq];simp,by rw[Fe,Pw,B7]at hown3;rw[List.length_append];exact hown3,(hbel.trans (hb2'.mono hbs)).grown hgrow3 (by omega) fun b hb=>(hrow.lt b hb).1⟩
         clear hown3 hgrow3 hrow hrow2 hbel heq hb2 hb2' y2 y3 hcell
         go_wp2
         go_roundw
         case rel=>exact⟨v3,k+1,j+2,_,rfl,by go_num,by go_num,HR.out⟩
         case measure=>simp[intOf];omega
       ·rw[show t[j+1]'hk1=105 from UInt8.toNat_inj.1 hd]at heq hsz
        have HS:Al Tryz.prog 124 [] [.sc (.int .u8 105),Aa n] [] (AS (mk (CO 105 n))):=D4 (c:=105) hIn
        clear hdk2 hsh
        go_wp2
        have b1:(0:Int)<=(j:Int)+1:=by omega
        have b2:(j:Int)+1<(t.size:Int):=by omega
        have b3:(0:Int)<=(k:Int):=by omega
        have b4:(k:Int)<(l.length:Int):=by omega
        go_region_law (first
          | (refine Ca _ rfl (.tmp 59) (.tmp 67) 192 9 rfl w.heap.size 5 ki Tryz.underlying192 Tryz.underlying9 khi khz khz1 khz2 ov T.length (Lib.byteCells T) (by simp[Act.eval]) hrow2 (mk (CO 105 n)) (by simp[Act.eval]) (by unfold maxLen;rw[B7];omega) (by rw[B7];omega) (by omega) ?_;intro v3 w3 hown3 hgrow3;have y3:w3.cell? ⟨bb,off+k,none⟩=some (.int .i64 n):=(hgrow3.cell_far ⟨bb,off+k,none⟩ hbb2 (fun e=>by have:=(hrow.lt bb e.symm).1;omega)).trans y2)
          | (go_simp;go_at_call 124;refine(HS.at hL hlB (below_drewN hbel 1) (Lu .sc .sc)).mono ?_;rintro r w2 ⟨u,rfl,hb2,hu⟩;obtain rfl:=hu.sc_inv;have hb2':Below wr.heap.size wr w2:=⟨hb2.os,hb2.tape,hb2.output,hb2.size,hb2.block⟩;have hz2:=hb2'.size;have hrow2:=Du hrow hb2';have y2:w2.cell? ⟨bb,off+k,none⟩=some (.int .i64 n):=(hb2'.cell (p:=⟨bb,off+k,none⟩) hbw).trans hcell;have hbb2:(⟨bb,off+k,none⟩:Addr).block<w2.heap.size:=Nat.lt_of_lt_of_le hbw hz2))
        all_goals
         have HR:Hid (RpI w t l v3 (k+1) (j+2) (T++CO 105 n) w3):=⟨by omega,hkl,by rw[List.length_append];omega,by rw[← heq];simp,by rw[Fe,Pw,B7]at hown3;rw[List.length_append];exact hown3,(hbel.trans (hb2'.mono hbs)).grown hgrow3 (by omega) fun b hb=>(hrow.lt b hb).1⟩
         clear hown3 hgrow3 hrow hrow2 hbel heq hb2 hb2' y2 y3 hcell
         go_wp2
         go_roundw
         case rel=>exact⟨v3,k+1,j+2,_,rfl,by go_num,by go_num,HR.out⟩
         case measure=>simp[intOf];omega
       ·rw[show t[j+1]'hk1=101 from UInt8.toNat_inj.1 hd]at heq hsz
        have HS:Al Tryz.prog 124 [] [.sc (.int .u8 101),Aa n] [] (AS (mk (CO 101 n))):=D4 (c:=101) hIn
        clear hdk2 hsh
        go_wp2
        have b1:(0:Int)<=(j:Int)+1:=by omega
        have b2:(j:Int)+1<(t.size:Int):=by omega
        have b3:(0:Int)<=(k:Int):=by omega
        have b4:(k:Int)<(l.length:Int):=by omega
        go_region_law (first
          | (refine Ca _ rfl (.tmp 59) (.tmp 67) 192 9 rfl w.heap.size 5 ki Tryz.underlying192 Tryz.underlying9 khi khz khz1 khz2 ov T.length (Lib.byteCells T) (by simp[Act.eval]) hrow2 (mk (CO 101 n)) (by simp[Act.eval]) (by unfold maxLen;rw[B7];omega) (by rw[B7];omega) (by omega) ?_;intro v3 w3 hown3 hgrow3;have y3:w3.cell? ⟨bb,off+k,none⟩=some (.int .i64 n):=(hgrow3.cell_far ⟨bb,off+k,none⟩ hbb2 (fun e=>by have:=(hrow.lt bb e.symm).1;omega)).trans y2)
          | (go_simp;go_at_call 124;refine(HS.at hL hlB (below_drewN hbel 1) (Lu .sc .sc)).mono ?_;rintro r w2 ⟨u,rfl,hb2,hu⟩;obtain rfl:=hu.sc_inv;have hb2':Below wr.heap.size wr w2:=⟨hb2.os,hb2.tape,hb2.output,hb2.size,hb2.block⟩;have hz2:=hb2'.size;have hrow2:=Du hrow hb2';have y2:w2.cell? ⟨bb,off+k,none⟩=some (.int .i64 n):=(hb2'.cell (p:=⟨bb,off+k,none⟩) hbw).trans hcell;have hbb2:(⟨bb,off+k,none⟩:Addr).block<w2.heap.size:=Nat.lt_of_lt_of_le hbw hz2))
        all_goals
         have HR:Hid (RpI w t l v3 (k+1) (j+2) (T++CO 101 n) w3):=⟨by omega,hkl,by rw[List.length_append];omega,by rw[← heq];simp,by rw[Fe,Pw,B7]at hown3;rw[List.length_append];exact hown3,(hbel.trans (hb2'.mono hbs)).grown hgrow3 (by omega) fun b hb=>(hrow.lt b hb).1⟩
         clear hown3 hgrow3 hrow hrow2 hbel heq hb2 hb2' y2 y3 hcell
         go_wp2
         go_roundw
         case rel=>exact⟨v3,k+1,j+2,_,rfl,by go_num,by go_num,HR.out⟩
         case measure=>simp[intOf];omega
       ·rw[show t[j+1]'hk1=117 from UInt8.toNat_inj.1 hd]at heq hsz
        have HS:Al Tryz.prog 124 [] [.sc (.int .u8 117),Aa n] [] (AS (mk (CO 117 n))):=D4 (c:=117) hIn
        clear hdk2 hsh
        go_wp2
        have b1:(0:Int)<=(j:Int)+1:=by omega
        have b2:(j:Int)+1<(t.size:Int):=by omega
        have b3:(0:Int)<=(k:Int):=by omega
        have b4:(k:Int)<(l.length:Int):=by omega
        go_region_law (first
          | (refine Ca _ rfl (.tmp 59) (.tmp 67) 192 9 rfl w.heap.size 5 ki Tryz.underlying192 Tryz.underlying9 khi khz khz1 khz2 ov T.length (Lib.byteCells T) (by simp[Act.eval]) hrow2 (mk (CO 117 n)) (by simp[Act.eval]) (by unfold maxLen;rw[B7];omega) (by rw[B7];omega) (by omega) ?_;intro v3 w3 hown3 hgrow3;have y3:w3.cell? ⟨bb,off+k,none⟩=some (.int .i64 n):=(hgrow3.cell_far ⟨bb,off+k,none⟩ hbb2 (fun e=>by have:=(hrow.lt bb e.symm).1;omega)).trans y2)
          | (go_simp;go_at_call 124;refine(HS.at hL hlB (below_drewN hbel 1) (Lu .sc .sc)).mono ?_;rintro r w2 ⟨u,rfl,hb2,hu⟩;obtain rfl:=hu.sc_inv;have hb2':Below wr.heap.size wr w2:=⟨hb2.os,hb2.tape,hb2.output,hb2.size,hb2.block⟩;have hz2:=hb2'.size;have hrow2:=Du hrow hb2';have y2:w2.cell? ⟨bb,off+k,none⟩=some (.int .i64 n):=(hb2'.cell (p:=⟨bb,off+k,none⟩) hbw).trans hcell;have hbb2:(⟨bb,off+k,none⟩:Addr).block<w2.heap.size:=Nat.lt_of_lt_of_le hbw hz2))
        all_goals
         have HR:Hid (RpI w t l v3 (k+1) (j+2) (T++CO 117 n) w3):=⟨by omega,hkl,by rw[List.length_append];omega,by rw[← heq];simp,by rw[Fe,Pw,B7]at hown3;rw[List.length_append];exact hown3,(hbel.trans (hb2'.mono hbs)).grown hgrow3 (by omega) fun b hb=>(hrow.lt b hb).1⟩
         clear hown3 hgrow3 hrow hrow2 hbel heq hb2 hb2' y2 y3 hcell
         go_wp2
         go_roundw
         case rel=>exact⟨v3,k+1,j+2,_,rfl,by go_num,by go_num,HR.out⟩
         case measure=>simp[intOf];omega
       ·rw[show t[j+1]'hk1=120 from UInt8.toNat_inj.1 hd]at heq hsz
        have HS:Al Tryz.prog 124 [] [.sc (.int .u8 120),Aa n] [] (AS (mk (CO 120 n))):=D4 (c:=120) hIn
        clear hdk2 hsh
        go_wp2
        have b1:(0:Int)<=(j:Int)+1:=by omega
        have b2:(j:Int)+1<(t.size:Int):=by omega
        have b3:(0:Int)<=(k:Int):=by omega
        have b4:(k:Int)<(l.length:Int):=by omega
        go_region_law (first
          | (refine Ca _ rfl (.tmp 59) (.tmp 67) 192 9 rfl w.heap.size 5 ki Tryz.underlying192 Tryz.underlying9 khi khz khz1 khz2 ov T.length (Lib.byteCells T) (by simp[Act.eval]) hrow2 (mk (CO 120 n)) (by simp[Act.eval]) (by unfold maxLen;rw[B7];omega) (by rw[B7];omega) (by omega) ?_;intro v3 w3 hown3 hgrow3;have y3:w3.cell? ⟨bb,off+k,none⟩=some (.int .i64 n):=(hgrow3.cell_far ⟨bb,off+k,none⟩ hbb2 (fun e=>by have:=(hrow.lt bb e.symm).1;omega)).trans y2)
          | (go_simp;go_at_call 124;refine(HS.at hL hlB (below_drewN hbel 1) (Lu .sc .sc)).mono ?_;rintro r w2 ⟨u,rfl,hb2,hu⟩;obtain rfl:=hu.sc_inv;have hb2':Below wr.heap.size wr w2:=⟨hb2.os,hb2.tape,hb2.output,hb2.size,hb2.block⟩;have hz2:=hb2'.size;have hrow2:=Du hrow hb2';have y2:w2.cell? ⟨bb,off+k,none⟩=some (.int .i64 n):=(hb2'.cell (p:=⟨bb,off+k,none⟩) hbw).trans hcell;have hbb2:(⟨bb,off+k,none⟩:Addr).block<w2.heap.size:=Nat.lt_of_lt_of_le hbw hz2))
        all_goals
         have HR:Hid (RpI w t l v3 (k+1) (j+2) (T++CO 120 n) w3):=⟨by omega,hkl,by rw[List.length_append];omega,by rw[← heq];simp,by rw[Fe,Pw,B7]at hown3;rw[List.length_append];exact hown3,(hbel.trans (hb2'.mono hbs)).grown hgrow3 (by omega) fun b hb=>(hrow.lt b hb).1⟩
         clear hown3 hgrow3 hrow hrow2 hbel heq hb2 hb2' y2 y3 hcell
         go_wp2
         go_roundw
         case rel=>exact⟨v3,k+1,j+2,_,rfl,by go_num,by go_num,HR.out⟩
         case measure=>simp[intOf];omega
       ·rw[show t[j+1]'hk1=111 from UInt8.toNat_inj.1 hd]at heq hsz
        have HS:Al Tryz.prog 124 [] [.sc (.int .u8 111),Aa n] [] (AS (mk (CO 111 n))):=D4 (c:=111) hIn
        clear hdk2 hsh
        go_wp2
        have b1:(0:Int)<=(j:Int)+1:=by omega
        have b2:(j:Int)+1<(t.size:Int):=by omega
        have b3:(0:Int)<=(k:Int):=by omega
        have b4:(k:Int)<(l.length:Int):=by omega
        go_region_law (first
          | (refine Ca _ rfl (.tmp 59) (.tmp 67) 192 9 rfl w.heap.size 5 ki Tryz.underlying192 Tryz.underlying9 khi khz khz1 khz2 ov T.length (Lib.byteCells T) (by simp[Act.eval]) hrow2 (mk (CO 111 n)) (by simp[Act.eval]) (by unfold maxLen;rw[B7];omega) (by rw[B7];omega) (by omega) ?_;intro v3 w3 hown3 hgrow3;have y3:w3.cell? ⟨bb,off+k,none⟩=some (.int .i64 n):=(hgrow3.cell_far ⟨bb,off+k,none⟩ hbb2 (fun e=>by have:=(hrow.lt bb e.symm).1;omega)).trans y2)
          | (go_simp;go_at_call 124;refine(HS.at hL hlB (below_drewN hbel 1) (Lu .sc .sc)).mono ?_;rintro r w2 ⟨u,rfl,hb2,hu⟩;obtain rfl:=hu.sc_inv;have hb2':Below wr.heap.size wr w2:=⟨hb2.os,hb2.tape,hb2.output,hb2.size,hb2.block⟩;have hz2:=hb2'.size;have hrow2:=Du hrow hb2';have y2:w2.cell? ⟨bb,off+k,none⟩=some (.int .i64 n):=(hb2'.cell (p:=⟨bb,off+k,none⟩) hbw).trans hcell;have hbb2:(⟨bb,off+k,none⟩:Addr).block<w2.heap.size:=Nat.lt_of_lt_of_le hbw hz2))
        all_goals
         have HR:Hid (RpI w t l v3 (k+1) (j+2) (T++CO 111 n) w3):=⟨by omega,hkl,by rw[List.length_append];omega,by rw[← heq];simp,by rw[Fe,Pw,B7]at hown3;rw[List.length_append];exact hown3,(hbel.trans (hb2'.mono hbs)).grown hgrow3 (by omega) fun b hb=>(hrow.lt b hb).1⟩
         clear hown3 hgrow3 hrow hrow2 hbel heq hb2 hb2' y2 y3 hcell
         go_wp2
         go_roundw
         case rel=>exact⟨v3,k+1,j+2,_,rfl,by go_num,by go_num,HR.out⟩
         case measure=>simp[intOf];omega
       ·rw[show t[j+1]'hk1=99 from UInt8.toNat_inj.1 hd]at heq hsz
        have HS:Al Tryz.prog 124 [] [.sc (.int .u8 99),Aa n] [] (AS (mk (CO 99 n))):=D4 (c:=99) hIn
        clear hdk2 hsh
        go_wp2
        have b1:(0:Int)<=(j:Int)+1:=by omega
        have b2:(j:Int)+1<(t.size:Int):=by omega
        have b3:(0:Int)<=(k:Int):=by omega
        have b4:(k:Int)<(l.length:Int):=by omega
        go_region_law (first
          | (refine Ca _ rfl (.tmp 59) (.tmp 67) 192 9 rfl w.heap.size 5 ki Tryz.underlying192 Tryz.underlying9 khi khz khz1 khz2 ov T.length (Lib.byteCells T) (by simp[Act.eval]) hrow2 (mk (CO 99 n)) (by simp[Act.eval]) (by unfold maxLen;rw[B7];omega) (by rw[B7];omega) (by omega) ?_;intro v3 w3 hown3 hgrow3;have y3:w3.cell? ⟨bb,off+k,none⟩=some (.int .i64 n):=(hgrow3.cell_far ⟨bb,off+k,none⟩ hbb2 (fun e=>by have:=(hrow.lt bb e.symm).1;omega)).trans y2)
          | (go_simp;go_at_call 124;refine(HS.at hL hlB (below_drewN hbel 1) (Lu .sc .sc)).mono ?_;rintro r w2 ⟨u,rfl,hb2,hu⟩;obtain rfl:=hu.sc_inv;have hb2':Below wr.heap.size wr w2:=⟨hb2.os,hb2.tape,hb2.output,hb2.size,hb2.block⟩;have hz2:=hb2'.size;have hrow2:=Du hrow hb2';have y2:w2.cell? ⟨bb,off+k,none⟩=some (.int .i64 n):=(hb2'.cell (p:=⟨bb,off+k,none⟩) hbw).trans hcell;have hbb2:(⟨bb,off+k,none⟩:Addr).block<w2.heap.size:=Nat.lt_of_lt_of_le hbw hz2))
        all_goals
         have HR:Hid (RpI w t l v3 (k+1) (j+2) (T++CO 99 n) w3):=⟨by omega,hkl,by rw[List.length_append];omega,by rw[← heq];simp,by rw[Fe,Pw,B7]at hown3;rw[List.length_append];exact hown3,(hbel.trans (hb2'.mono hbs)).grown hgrow3 (by omega) fun b hb=>(hrow.lt b hb).1⟩
         clear hown3 hgrow3 hrow hrow2 hbel heq hb2 hb2' y2 y3 hcell
         go_wp2
         go_roundw
         case rel=>exact⟨v3,k+1,j+2,_,rfl,by go_num,by go_num,HR.out⟩
         case measure=>simp[intOf];omega
      ·rw[List.drop_of_length_le (show l.length<=k by omega)]at heq
       have e1:(([]:List Int).take 1).flatMap (CO (t[j+1]'hk1))=[]:=rfl
       rw[e1,List.tail_nil,List.nil_append,← List.drop_of_length_le (show l.length<=k by omega)]at heq
       clear e1
       rcases Ow hsh with hd | hd | hd | hd | hd | hd | hd
       ·clear hdk2 hsh
        have HR:Hid (RpI w t l ov k (j+2) T wr):=⟨by omega,hk,by omega,heq,hrow,hbel⟩
        go_wp2
        go_roundw
        case rel=>exact⟨ov,k,j+2,_,rfl,rfl,by go_num,HR.out⟩
        case measure=>simp[intOf];omega
       ·clear hdk2 hsh
        have HR:Hid (RpI w t l ov k (j+2) T wr):=⟨by omega,hk,by omega,heq,hrow,hbel⟩
        go_wp2
        go_roundw
        case rel=>exact⟨ov,k,j+2,_,rfl,rfl,by go_num,HR.out⟩
        case measure=>simp[intOf];omega
       ·clear hdk2 hsh
        have HR:Hid (RpI w t l ov k (j+2) T wr):=⟨by omega,hk,by omega,heq,hrow,hbel⟩
        go_wp2
        go_roundw
        case rel=>exact⟨ov,k,j+2,_,rfl,rfl,by go_num,HR.out⟩
        case measure=>simp[intOf];omega
       ·clear hdk2 hsh
        have HR:Hid (RpI w t l ov k (j+2) T wr):=⟨by omega,hk,by omega,heq,hrow,hbel⟩
        go_wp2
        go_roundw
        case rel=>exact⟨ov,k,j+2,_,rfl,rfl,by go_num,HR.out⟩
        case measure=>simp[intOf];omega
       ·clear hdk2 hsh
        have HR:Hid (RpI w t l ov k (j+2) T wr):=⟨by omega,hk,by omega,heq,hrow,hbel⟩
        go_wp2
        go_roundw
        case rel=>exact⟨ov,k,j+2,_,rfl,rfl,by go_num,HR.out⟩
        case measure=>simp[intOf];omega
       ·clear hdk2 hsh
        have HR:Hid (RpI w t l ov k (j+2) T wr):=⟨by omega,hk,by omega,heq,hrow,hbel⟩
        go_wp2
        go_roundw
        case rel=>exact⟨ov,k,j+2,_,rfl,rfl,by go_num,HR.out⟩
        case measure=>simp[intOf];omega
       ·clear hdk2 hsh
        have HR:Hid (RpI w t l ov k (j+2) T wr):=⟨by omega,hk,by omega,heq,hrow,hbel⟩
        go_wp2
        go_roundw
        case rel=>exact⟨ov,k,j+2,_,rfl,rfl,by go_num,HR.out⟩
        case measure=>simp[intOf];omega
     ·have hno:=ZW (by simpa using hsh)
      obtain⟨q1,q2,q3,q4,q5,q6,q7⟩:=hno
      rw[Aet h37 (by simpa using hsh)]at heq
      have next:∀ v' w3,w3.ownsRow w.heap.size 5 1 v' (T.length+2) (Lib.byteCells T++[.int .u8 37,.int .u8 ((t[j+1]'hk1).toNat:Int)])->((wr.alloc (.cells #[.int .u8 37,.int .u8 ((t[j+1]'hk1).toNat:Int)] 5)).grownBy w3 ov.ownBlock)->Hid (RpI w t l v' k (j+2) (T++[37,t[j+1]'hk1]) w3):=fun v' w3 ho hg =>
       ⟨by omega,hk,by simp;omega,by rw[← heq];simp,by simpa[Lib.byteCells] using ho,(hbel.alloc hbs _).grown hg (by simp;omega) fun b hb=>(hrow.lt b hb).1⟩
      go_wp2_with (at_builtin;refine wpList_append_own _ rfl _ _ 192 rfl w.heap.size 5 ki (.int .u8 0) 1 1 Tryz.underlying192 khi khz khz1 khz2 rfl (by decide) ov T.length (Lib.byteCells T) rfl ?qrow ⟨wr.heap.size,0,none⟩ 2 2 [.int .u8 37,.int .u8 ((t[j+1]'hk1).toNat:Int)] rfl ?qc1 ?qc2 ?qc3 ?qc4 ?qc5 ?qc6 ?_)
      case qrow=>exact Du hrow (Ir _ _)
      case qc1=>rfl
      case qc2=>exact World.news_of_block (heap_alloc_new wr (.cells #[.int .u8 37,.int .u8 ((t[j+1]'hk1).toNat:Int)] 5))
      case qc3=>intro u hu;simp at hu;rcases hu with rfl | rfl<;>rfl
      case qc4=>unfold maxLen;omega
      case qc5=>omega
      case qc6=>simp;omega
      intro v2 w3 hown3 hgrow3 _
      have HR:=next v2 w3 hown3 hgrow3
      clear hown3 hgrow3 next hrow hbel heq
      go_wp2
      go_roundw
      case rel=>exact⟨v2,k,j+2,_,rfl,rfl,by go_num,HR.out⟩
      case measure=>simp[intOf];omega
  ·obtain rfl:j=t.size:=by omega
   have heq':T=B6 (bs t) l:=by
    rw[List.drop_of_length_le (show(bs t).length<=t.size by rw[← NR];omega)]at heq
    rw[← heq];simp[B6]
   have hcv:=AfC hrow
   rw[heq']at hcv
   go_wp2
   go_ret
   exact⟨rfl,hbel⟩
theorem Uf : Yd:=fun{t l} hI ht _=>by
 refine Al.hand ⟨_,Tryz.func87,rfl,by kernel_rfl⟩ fun w E vs hA hL hB _ hs0=>?_
 obtain⟨u1,us1,rfl,v1,hs0⟩:=hs0.cons_inv
 obtain⟨u2,us2,rfl,v2,hs0⟩:=hs0.cons_inv
 obtain rfl:=hs0.nil_inv
 obtain rfl:=v1.sc_inv
 obtain⟨ao,cap,rfl,h1,h2,h3⟩:=Ajn v2
 refine(RS hL hB h1 h2 h3 hI (by omega)).mono ?_
 rintro r w' ⟨rfl,hb⟩
 exact⟨_,rfl,.sc,hb⟩
theorem R1 {k op p:Int}{i:Nat}(h:DY k op i p=true)(h0:0<=k):p<k:=by
 unfold DY at h
 cases c:decide (i<AP op) with
 | true=>rw[c,cond_true]at h;have:=B1.1 h;omega
 | false=>rw[c,cond_false]at h;have:=of_decide_eq_true h;omega
theorem AeF {m:D.Model}{k:Int}(h:CP m k=true)(h0:0<=k):(Ao m k).A<k/\(Ao m k).B<k/\(Ao m k).C<k:=by
 unfold CP at h
 simp only[Bool.and_eq_true]at h
 obtain⟨⟨_,⟨hA,hB⟩,hC⟩,_⟩:=h
 exact⟨R1 hA h0,R1 hB h0,R1 hC h0⟩
section
variable {m : D.Model}
theorem Zb (he:∀ i:Nat,i<m.Exprs.length->CP m i=true):∀ (n:Nat) (x:Int),x<n->x<m.Exprs.length->Al Tryz.prog 72 [] [Aa x,.tp (Af m),.tp (FD 72 (Af m) (n+1))] [] (Ac (isO m n x))
 | 0,x,h0,_=>Ag Ai Aj Tryz.func72 (by kernel_rfl) rfl (YZ _ m x (FD 72 (Af m) 0)) ⟨fun _=>Ap rfl,fun h=>absurd (of_decide_eq_false h) (by omega)⟩
 | n+1,x,h0,h1=>by
  have IH:=Zb he n
  refine Ag Ai Aj Tryz.func72 (by kernel_rfl) rfl (YZ _ m x (FD 72 (Af m) (n+1))) ⟨fun h=>Ap ?_,fun h=>?_⟩
  ·unfold isO
   rw[h,cond_true]
  ·have hx:0<=x:=by have:=of_decide_eq_false h;omega
   have hex:=he x.toNat (by omega)
   rw[show((x.toNat:Nat):Int)=x by omega]at hex
   obtain⟨pA,pB,pC⟩:=AeF hex hx
   have hok:=Pj hex
   have hO:isO m (n+1) x=PW (isO m n) (Ao m x):=by
    show(bif decide (x<0) then true else _)=_
    rw[h,cond_false]
   rw[hO]
   have hv:(Ao m x).Op=2->Vh m x (Ao m x).V:=fun h=>HL (hok.var h)
   change inX x m.Exprs.length/\_
   refine⟨⟨hx,h1⟩,?_⟩
   change BB ((Ao m x).Op==1) (BB ((Ao m x).Op==1) _ _) (BB ((Ao m x).Op==31) _ (BB ((Ao m x).Op==2) (∃ y:Bool,((true&&((Ao m x).V.Scope==1)==true)=true->Al _ _ _ [BK true (Ao m x).V.Dims,_] _ _)/\(leO [] []/\VV.le (Ac (bif (Ao m x).V.Scope==1 then !y else false)) _))
    (∃ y:Bool,(_->Al _ _ _ [Aa (Ao m x).A,_,_] _ _)/\∃ y1:Bool,(_->Al _ _ _ [Aa (Ao m x).B,_,_] _ _)/\∃ y2:Bool,(_->Al _ _ _ [Aa (Ao m x).C,_,_] _ _)/\(leO [] []/\VV.le (Ac (bif bif bif bif decide ((Ao m x).Op>=3) then decide ((Ao m x).Op<=24) else false then y else false then y1 else false then y2 else false)) _))))
   generalize Ao m x=X at *
   unfold PW
   refine⟨fun a=>⟨fun _=>Ap ?_,fun b=>absurd (a.symm.trans b) (by simp)⟩,fun a=>⟨fun b=>Ap ?_,fun b=>⟨fun c=>?_,fun c=>?_⟩⟩⟩
   ·have a:X.Op=1:=by simpa using a
    simp[a]
   ·have b:X.Op=31:=by simpa using b
    simp[b]
   ·have c:X.Op=2:=by simpa using c
    have hv:=hv c
    refine⟨X.V.Dims.any fun d=>!isO m n d.I,fun _=>AeD _ (by have:=hv.dims;omega) fun d hd=>?_,Ap ?_⟩
    ·obtain⟨_,d0,d1⟩:=hv.dim d hd
     exact Ag Ai Aj Tryz.func74 (by kernel_rfl) rfl (Ad7 _ m d (FD 72 (Af m) (n+1))) ⟨isO m n d.I,IH _ (by omega) (by omega),Ap rfl⟩
    ·rw[c]
     have e:(!(X.V.Dims.any fun d=>!isO m n d.I))=X.V.Dims.all fun d=>isO m n d.I:=by
      rw[List.all_eq_not_any_not]
     rw[e]
     by_cases hs:X.V.Scope=1<;>simp[hs]
   ·have c:X.Op≠2:=by simpa using c
    have a:X.Op≠1:=by simpa using a
    have b:X.Op≠31:=by simpa using b
    refine⟨isO m n X.A,fun _=>IH _ (by omega) (by omega),isO m n X.B,fun _=>IH _ (by omega) (by omega),isO m n X.C,fun _=>IH _ (by omega) (by omega),Ap ?_⟩
    simp only[decide_eq_false a,decide_eq_false b,decide_eq_false c,Bool.or_self,cond_false]
    by_cases h3:3<=X.Op<;>by_cases h4:X.Op<=24<;>simp[h3,h4]<;>cases isO m n X.A<;>cases isO m n X.B<;>rfl
theorem AeK {s:D.Stmt}(he:∀ i:Nat,i<m.Exprs.length->CP m i=true)(hs:C4 m s):Al Tryz.prog 49 [] [.agg (Af m),.agg (Ar s)] [] (Ac (JW m s)):=by
 have hal:=hs.args
 have hI:∀ x:Int,x<m.Exprs.length->Al Tryz.prog 72 [] [Aa x,.tp (Af m),.tp (FD 72 (Af m) (m.Exprs.length+1))] [] (Ac (FK m x)):=fun x hx=>Zb he m.Exprs.length x hx hx
 refine Ag Ai Aj Tryz.func49 (by kernel_rfl) rfl (AdZ _ m s) ?_
 refine Aq.lay (i:=0) (j:=2) (m.Exprs.length+2) rfl rfl rfl rfl (fun k o h=>?_) (fun p hp=>?_) ?_
 ·match k,h with
  | 0,h=>obtain rfl:=Option.some.inj h;exact .inr ⟨_,rfl,rfl⟩
  | 1,h=>obtain rfl:=Option.some.inj h;exact .inr ⟨_,rfl,rfl⟩
  | 2,_=>exact .inl rfl
  | k+3,h=>simp at h
 ·simp only[List.mem_cons,List.not_mem_nil,or_false]at hp
  rcases hp with rfl | rfl | rfl
  ·exact .inr ⟨0,rfl,by simp⟩
  ·exact .inr ⟨1,rfl,by simp⟩
  ·exact .inr ⟨2,rfl,by simp⟩
 ·show Aq _ Ai8 (Ahs m s (FD 72 (Af m) (m.Exprs.length+1+1)))
  refine Dq Ai Aj (by kernel_rfl) (Abk _ m s (FD 72 (Af m) (m.Exprs.length+1))) ⟨fun h=>?_,fun h1=>⟨fun h=>?_,fun h2=>⟨fun h=>?_,fun h4=>Ap ?_⟩⟩⟩
  ·have h:s.Kind=1:=by simpa using h
   refine⟨_,hI _ (hs.k1 h).2,Ap ?_⟩
   unfold JW
   rw[if_pos h]
  ·have h:s.Kind=2:=by simpa using h
   refine⟨_,hI _ (hs.v2 h).2.1,_,fun _=>hI _ (hs.k2 h).2,Ap ?_⟩
   unfold JW
   rw[if_neg (by omega),if_pos h]
   cases FK m s.A<;>rfl
  ·have h:s.Kind=4:=by simpa using h
   refine⟨s.Args.any fun x=>!FK m x,AeC _ (by omega) fun x hx=>?_,Ap ?_⟩
   ·exact Ag Ai Aj Tryz.func76 (by kernel_rfl) rfl (Ad6 _ m x (FD 72 (Af m) (m.Exprs.length+1))) ⟨FK m x,hI _ (hs.a4 h x hx).2,Ap rfl⟩
   ·unfold JW
    rw[if_neg (by omega),if_neg (by omega),if_pos h,List.all_eq_not_any_not]
  ·have h1:s.Kind≠1:=by simpa using h1
   have h2:s.Kind≠2:=by simpa using h2
   have h4:s.Kind≠4:=by simpa using h4
   unfold JW
   rw[if_neg h1,if_neg h2,if_neg h4]
   show(bif decide (s.Kind=8) then true else decide (s.Kind=7))=_
   cases decide (s.Kind=8)<;>rfl
theorem Qu (l:D.Loc):Al Tryz.prog 48 [] [.agg (Bf l)] [] (Ac (ES l)) :=
 Ag Ai Aj Tryz.func48 (by kernel_rfl) rfl (Abe _ l) (Ap (by unfold ES;cases l.Atomic<;>cases l.Dstep<;>cases l.Accept<;>cases l.Progress<;>rfl))
theorem Uu {w:List D.Trans}(hw:w.length<=1048576):Al Tryz.prog 81 [] [As true w,.tp [.fn (.func 79) []]] [] (Ac (w.any fun t=>decide (t.S.Kind=6)&&decide (t.S.N<2))) :=
 Ag Ai Aj Tryz.func81 (by kernel_rfl) rfl (Ad3 _ w) ⟨_,Aew _ (by omega) fun t _=>Ag Ai Aj Tryz.func79 (by kernel_rfl) rfl (Ad4 _ t) (Ap (by by_cases h:t.S.Kind=6<;>simp[h])),Ap rfl⟩
theorem Uh {l:D.Loc}(hS:m.Shapes.length<=1048576)(hl:Kd l):Al Tryz.prog 50 [] [.agg (Af m),.agg (Bf l)] [] (Ac (Gw m l)):=by
 have hE:=hl.Esc.1
 refine Ag Ai Aj Tryz.func50 (by kernel_rfl) rfl (Xm _ m l) ⟨It m,Aex _ (by omega) fun s _=>Ag Ai Aj Tryz.func78 (by kernel_rfl) rfl (Ad5 _ s) (Ap (by by_cases h:s.Room=0<;>simp[h])),fun h=>Ap ?_,fun h=>⟨by omega,fun _ _=>rfl,RA l,?_,Ap ?_⟩⟩
 ·unfold Gw
  rw[show It m=false by simpa using h]<;>rfl
 ·have hsp:=Aev (g:=81) (c:=[.fn (.func 79) []]) (l:=Bw l) (fun w=>w.any fun t=>decide (t.S.Kind=6)&&decide (t.S.N<2)) (by unfold Bw;rw[List.length_cons];omega) fun w hw=>Uu (by
   rcases List.mem_cons.1 hw with rfl | hw
   ·exact hl.Out.1
   ·exact(hl.Esc.2 w hw).1)
  refine Al.le hsp trivial ⟨?_,VV.le_refl _,trivial⟩ trivial (VV.le_refl _)
  show VV.le _ (.sl false (Bw l).length 1 fun i=>[As true ((Bw l).getD i [])])
  rw[show(Bw l).length=1+l.Esc.length by unfold Bw;rw[List.length_cons];omega]
  refine VV.le_sl (.inl rfl) fun i hi=>AZ ?_
  cases i with
  | zero=>rfl
  | succ i =>
   rw[show Nat.blt (i+1) 1=false by cases i<;>rfl,cond_false,show i+1 - 1=i by omega]
   rfl
 ·unfold Gw
  rw[show It m=true by simpa using h]<;>rfl
theorem OY {p:D.Proc}{l:D.Loc}(he:∀ i:Nat,i<m.Exprs.length->CP m i=true)(hS:m.Shapes.length<=1048576)(hp:Fw p)(ho:l.Out.length<=1048576)(hst:∀ t∈l.Out,C4 m t.S)(hto:∀ t∈l.Out,inP p.Locs.length t.To=true) :
  Al Tryz.prog 21 [] [.agg (Af m),.agg (AO p),.agg (Bf l)] [] (Ac (DV m p l)):=by
 have hq:DV m p l=(!(decide (l.Out.length=0)||(decide (0<l.Esc.length)||(ES l||decide (0<=p.Provided))))&&l.Out.all fun t=>JW m t.S&&(!ES (p.Locs.getD t.To.toNat default)&&!Gw m (p.Locs.getD t.To.toNat default))):=rfl
 generalize DV m p l=R at hq ⊢
 refine Ag Ai Aj Tryz.func21 (by kernel_rfl) rfl (Abf R m p l) ⟨ES l,fun _=>Qu l,fun h=>Ap ?_,fun h=>?_⟩
 ·rw[hq]
  have:(decide (l.Out.length=0)||(decide (0<l.Esc.length)||(ES l||decide (0<=p.Provided))))=true:=by
   by_cases h1:l.Out.length=0
   ·simp[h1]
   ·by_cases h2:0<l.Esc.length
    ·simp[h2]
    ·cases h3:ES l with
     | true=>simp
     | false=>simp[h1,h2,h3]at h;simp[h]
  rw[this]<;>rfl
 ·have:(decide (l.Out.length=0)||(decide (0<l.Esc.length)||(ES l||decide (0<=p.Provided))))=false:=by
   by_cases h1:l.Out.length=0
   ·simp[h1]at h
   ·by_cases h2:0<l.Esc.length
    ·simp[h2]at h
    ·cases h3:ES l with
     | true=>simp[h3]at h
     | false=>simp[h1,h2,h3]at h;simp[h1,h2,h]
  rw[this,Bool.not_false,Bool.true_and]at hq
  clear h this
  generalize l.Out=w at ho hst hto hq ⊢
  refine AA Ai Aj (fun gg st=>∃ k:Nat,k<=w.length/\gg=w.length - k/\R=((w.drop k).all fun t=>JW m t.S&&(!ES (p.Locs.getD t.To.toNat default)&&!Gw m (p.Locs.getD t.To.toNat default)))/\st=Af9 m p w k) (by kernel_rfl) (by kernel_rfl) ⟨_,Up.of ⟨0,Nat.zero_le _,rfl,hq,rfl⟩⟩ ?_
  rintro gg st ⟨k,hk,rfl,hr,rfl⟩
  have hkn:(k:Int).toNat=k:=by omega
  refine AY.raw (Xh R m p w k _) ⟨fun hlt=>?_,fun hge=>Ap ?_⟩
  ·have hlt':k<w.length:=by have:=AG hlt;omega
   have hm:=An (d:=(default:D.Trans)) hlt'
   rw[hkn]
   rw[Bb (d:=default) hlt',List.all_cons]at hr
   have ht:=B1.1 (hto _ hm)
   have hs:=hst _ hm
   generalize w.getD k default=t at hr ht hs ⊢
   have hl:Kd (p.Locs.getD t.To.toNat default):=hp.Locs.2 _ (An (by omega))
   refine⟨⟨by omega,by omega⟩,JW m t.S,AeK he hs,fun _=>ht,ES (p.Locs.getD t.To.toNat default),fun _=>Qu _,fun _=>ht,Gw m (p.Locs.getD t.To.toNat default),fun _=>Uh hS hl,fun h=>Ap ?_,fun h=>⟨w.length - (k+1),by omega,Up.of ⟨k+1,hlt',rfl,?_,by rw[Ak (by omega)]⟩⟩⟩
   ·rw[hr]
    revert h
    cases JW m t.S<;>cases ES (p.Locs.getD t.To.toNat default)<;>cases Gw m (p.Locs.getD t.To.toNat default)<;>simp
   ·rw[hr]
    revert h
    cases JW m t.S<;>cases ES (p.Locs.getD t.To.toNat default)<;>cases Gw m (p.Locs.getD t.To.toNat default)<;>simp
  ·rw[hr,List.drop_of_length_le (by have:=AI hge;omega)]<;>rfl
end
section
variable {m : D.Model}
theorem K6 {i run:Int}{P:Int->Prop}(hP:∀ k,P k->Ew m i run k=false/\∀ j∈Bp (Ao m k),P j) :
  ∀ {g:Nat} {seen:List Bool} {l:List Int},(∀ k∈l,P k)->K7 m i run g seen l=true
 | 0,_,[],_=>rfl
 | 0,_,_::_,_=>rfl
 | _+1,_,[],_=>rfl
 | g+1,seen,k::r,h=>by
  unfold K7
  obtain⟨h1,h2⟩:=hP k (h k List.mem_cons_self)
  rw[h1,cond_false,K6 hP fun j hj=>h j (List.mem_cons_of_mem _ hj),K6 hP (by grind)]
  grind
def AfU (m:D.Model)(i run k:Int):Prop:=0<=k/\k<m.Exprs.length/\∃ (g:Nat) (b:Bool),k.toNat<g/\JZ m i g k b=true/\(b=true->k=run)
theorem Y7 (hr:Es m){i run k:Int}(h:AfU m i run k):Ew m i run k=false/\∀ j∈Bp (Ao m k),AfU m i run j:=by
 obtain⟨h0,hk,g,b,hg,hu,hb⟩:=h
 obtain⟨g,rfl⟩:∃ g',g=g'+1:=⟨g - 1,by omega⟩
 unfold JZ at hu
 simp only[Bool.and_eq_true,Bool.not_eq_true',AK]at hu
 obtain⟨u1,u2,u3⟩:=hu
 refine⟨?_,fun j hj=>?_⟩
 ·unfold NA at u1
  unfold Ew
  grind
 ·obtain⟨n,hn,rfl⟩:=List.getElem_of_mem hj
  have hin:=LR (hr.at h0 hk) _ hj
  have:=u3 n hn
  rw[show(Bp (Ao m k)).getD n 0=(Bp (Ao m k))[n] by simp[List.getD,hn]]at this
  exact⟨by omega,by omega,g,false,by omega,this,fun h=>by cases h⟩
theorem Sd {i run k:Int}{b:Bool}(h0:0<=k)(hk:k<m.Exprs.length)(h:FC m i k b=true)(hb:b=true->k=run):AfU m i run k:=⟨h0,hk,_,b,Nat.lt_succ_self _,h,hb⟩
theorem AhD (hr:Es m){i:Int}{s:D.Stmt}(h:Rs m i s=true):JV m i s=true:=by
 unfold Rs Rl at h
 simp only[Bool.and_eq_true,Bool.not_eq_true',Bool.or_eq_true,Bool.not_eq_true',decide_eq_false_iff_not,AK]at h
 obtain⟨h1,h2,h3,h4,h5⟩:=h
 obtain⟨i1,i2,i3⟩:=HP h1
 unfold JV
 rw[h1,Bool.true_and,Bool.and_eq_true]
 refine⟨?_,K6 (P:=AfU m i _) (fun k=>Y7 hr) fun k hk=>?_⟩
 ·revert h2
  grind
 ·rcases List.mem_append.1 hk with hk | hk
  ·obtain⟨n,hn,rfl⟩:=List.getElem_of_mem hk
   have:=h5 n hn
   rw[show s.Args.getD n 0=s.Args[n] by simp[List.getD,hn]]at this
   have hi:=i1 _ hk
   grind [Sd]
  ·grind [Sd]
theorem Ags (hr:Es m){i:Int}(hpv:(AN m i).Provided<m.Exprs.length)(h:IE m i=true):CW m i=true:=by
 unfold IE at h
 unfold CW
 simp only[Bool.and_eq_true,Bool.or_eq_true,decide_eq_true_eq,AK]at h ⊢
 refine⟨fun k hk=>?_,(Int.lt_or_le (AN m i).Provided 0).imp id fun h0=>K6 (P:=AfU m i _) (fun k=>Y7 hr) fun k hk=>?_⟩
 ·have:=h.1 k hk
  unfold UC L6 at this
  unfold Nu IL
  simp only[AK]at this ⊢
  exact fun j hj n hn=>AhD hr (this j hj n hn)
 ·rw[List.mem_singleton.1 hk]
  exact Sd h0 hpv (h.2.resolve_left (by omega)) fun h=>by cases h
theorem P7 {n:Nat}:∀ {ws:List (List D.Trans)} {many k:Nat},(∀ j,j<ws.length->(0<k+j->(ws.getD j []).length≠0)/\∀ h,h<(ws.getD j []).length->inP n ((ws.getD j []).getD h default).To=true) ->
  many+G9 ws<=1024->Gg n many k ws=some (many+G9 ws)
 | [],many,k,_,_=>rfl
 | w::r,many,k,h,hm=>by
  have hl:G9 (w::r)=w.length+G9 r:=rfl
  obtain⟨a,b⟩:=h 0 (Nat.zero_lt_succ _)
  unfold Gg
  have a:0<k->w.length≠0:=a
  have b:Cd w.length (fun i=>inP n (w.getD i default).To)=true:=AK.2 b
  rw[show(decide (0<k)&&decide (w.length=0))=false by grind,decide_eq_false (by omega:¬ 1024<many+w.length),b,P7 (fun j hj=>by
   have:=h (j+1) (Nat.succ_lt_succ hj)
   exact⟨fun _=>this.1 (by omega),this.2⟩) (by omega),hl,Nat.add_assoc]<;>rfl
theorem QZ {m:D.Model}{a:Int}{p:D.Proc}:∀ {ls:List D.Loc} {many i:Nat},(∀ j,j<ls.length->Ns m a p ((i+j:Nat):Int) (ls.getD j default)=false/\PR p (Bw (ls.getD j default))=true) ->
  many+Mr ls<=1024->FQ p.Locs.length p.Final many i ls=true
 | [],_,_,_,_=>rfl
 | l::r,many,i,h,hm=>by
  have hl:Mr (l::r)=G9 (Bw l)+Mr r:=rfl
  obtain⟨a1,b1⟩:=h 0 (Nat.zero_lt_succ _)
  have a1:Ns m a p ((i:Nat):Int) l=false:=a1
  have b1:PR p (Bw l)=true:=b1
  have hb:I6 p.Final i l=false:=by
   unfold Ns at a1
   unfold I6
   grind
  unfold PR IG IN at b1
  simp only[AK,Bool.and_eq_true,Bool.not_eq_true']at b1
  unfold FQ
  rw[hb,P7 (fun j hj=>⟨fun h0=>by have:=(b1 j hj).1;grind,fun n hn=>by have:=(b1 j hj).2 n hn;unfold inP;grind⟩) (by omega)]
  exact QZ (fun j hj=>by
   have:=h (j+1) (Nat.succ_lt_succ hj)
   rw[show i+1+j=i+(j+1) by omega]
   exact this) (by omega)
theorem Aff {i:Nat}(h:Ey m i=true):De m i=false:=by
 unfold Ey at h
 simp only[Bool.and_eq_true,Bool.not_eq_true',decide_eq_true_eq,AK]at h
 obtain⟨h1,h2,h3,h4,h5⟩:=h
 have hp:AN m i=m.Procs.getD i default:=rfl
 rw[hp]at h1 h2 h3 h4 h5
 unfold De
 generalize m.Procs.getD i default=p at *
 have hL:=QZ (m:=m) (a:=i) (p:=p) (ls:=p.Locs) (many:=0) (i:=0) (by grind) (by omega)
 unfold ZN at h1
 unfold ZM at h2
 simp only[Cn,Bool.or_eq_false_iff,decide_eq_false_iff_not,bne_eq_false_iff_eq]at h1 h2
 have g1:Eg p=true:=by
  unfold Eg
  grind
 have g2:Ef p=true:=by
  unfold Ef inP
  grind
 have g3:(decide ((i:Int)=m.Claim)&&!Ep p)=false:=by
  cases c:decide ((i:Int)=m.Claim) with
  | false=>rfl
  | true =>
   have c:=of_decide_eq_true c
   unfold AcN at h3
   have:Ep p=true:=by
    unfold Ep Ho
    simp only[Bool.and_eq_true,decide_eq_true_eq,AK]
    rw[show((i:Int)==m.Claim)=true by simpa using c,cond_true]at h3
    simp only[Cn,Bool.or_eq_false_iff,decide_eq_false_iff_not]at h3
    refine⟨by omega,fun k hk=>?_⟩
    have:=(h4 k hk).1
    unfold Ns at this
    grind
   rw[this]<;>rfl
 grind
theorem AeX (hw:A2 m)(h:JX m=true):F2 m=true:=by
 have ht:=Uz h
 unfold JX Ip at h
 unfold F2 Eh
 rw[ht]at h ⊢
 have hr:=HO hw (by rw[ht];decide)
 rw[show decide (0<((0:Int),(0:Int)).1)=false from rfl,cond_false]at h ⊢
 have k1:¬ 0<=Om m:=by grind
 rw[decide_eq_false k1,cond_false]at h
 have k2:¬ 16<El m m.Procs.length:=by grind
 rw[decide_eq_false k2,cond_false]at h
 have k3:¬ 0<=Ack m:=by grind
 have e1:Fy m=-1:=Db fun i hi=>by rw[Aff (E5 (f:=fun i:Nat=>Ey m i) (by unfold Om at k1;omega) i hi)]<;>rfl
 have e2:H5 m=-1:=Db (f:=fun i:Nat=>CW m i) fun i hi=>Ags hr (L8 (E5 (f:=fun i:Nat=>Ey m i) (by unfold Om at k1;omega) i hi)).1 (E5 (f:=fun i:Nat=>IE m i) (by unfold Ack at k3;omega) i hi)
 grind
theorem VE {s:D.State}(hw:A2 m)(h:FF m s=0):JX m=true/\CR m s=true/\B3 m s=0:=by
 unfold FF at h
 cases c:JX m with
 | false=>rw[c]at h;cases h
 | true =>
  rw[c,cond_true]at h
  cases d:CR m s with
  | false=>rw[d]at h;cases h
  | true =>
   refine⟨rfl,rfl,?_⟩
   unfold B3
   rw[AeX hw c,d]<;>rfl
end
def Mx (x:D.Expr):Bool:=(decide (x.Op=32)||(decide (x.Op=36)||(decide (x.Op=37)||decide (x.Op=38))))||(decide (x.Op=2)&&decide (x.V.Scope=2))
def PQ (x:D.Expr):Bool:=decide (x.Op=35)
def Ni (m:D.Model)(p:D.Proc):Bool:=decide (p.Prio≠(m.Procs.getD 0 default).Prio)
def U8 (p:D.Proc):Bool:=p.Locs.any fun l=>l.Atomic
def I3 (m:D.Model):Bool:=(decide (0<=m.Claim)||(m.Exprs.any Mx||m.Procs.any (Ni m)))||(m.Exprs.any PQ&&m.Procs.any U8)
def PH (m:D.Model):Int:=bif decide ((Eh m).1≠0) then(Eh m).1 else bif I3 m then 44 else 0
def Acl (m:D.Model):Int:=bif JX m then(bif I3 m then 44 else 0) else 40
theorem LZ {α:Type}{d:α}{l:List α}{p:α->Bool}{j:Nat}(hj:j<l.length)(h:p (l.getD j d)=true):l.any p=true:=List.any_eq_true.2 ⟨_,An hj,h⟩
theorem Jf {α:Type}{d:α}{l:List α}{p:α->Bool}{k:Nat}(hk:k<l.length):(l.take (k+1)).any p=((l.take k).any p||p (l.getD k d)):=by
 rw[CU (d:=d) hk,List.any_append]
 simp
section
variable {m : D.Model} {s:D.State}
theorem Mj (hw:A2 m):Al Tryz.prog 14 [] [.agg (Af m)] [] (Aa (PH m)):=by
 have hE:=hw.Exprs.1
 have hP:=hw.Procs.1
 have hq:PH m=bif decide ((Eh m).1≠0) then(Eh m).1 else bif I3 m then 44 else 0:=rfl
 generalize PH m=R at hq ⊢
 refine Ag Ai Aj Tryz.func14 (by kernel_rfl) rfl (AeI R m) ⟨Eh m,Pr hw,fun h=>Ba ?_,fun h=>⟨m.Exprs.any PQ,Uk _ (by omega) fun x _=>Ag Ai Aj Tryz.func32 (by kernel_rfl) rfl (AdU _ x) (Ap rfl),
  m.Exprs.any Mx,fun _=>Uk _ (by omega) fun x _=>Ag Ai Aj Tryz.func29 (by kernel_rfl) rfl (Aeu _ x) (Ap ?_),
  m.Procs.any (Ni m),fun _=>Aey _ (by omega) fun p hp=>Ag Ai Aj Tryz.func30 (by kernel_rfl) rfl (Ad1 _ m p) ⟨⟨by omega,by have:=List.length_pos_of_mem hp;omega⟩,Ap ?_⟩,
  m.Procs.any U8,fun _=>Aez _ (by omega) fun p hp=>Ag Ai Aj Tryz.func33 (by kernel_rfl) rfl (AeG _ p) ⟨_,AeB (fun l=>l.Atomic) (by have:=(hw.Procs.2 p hp).Locs.1;omega) fun l _=>Ag Ai Aj Tryz.func35 (by kernel_rfl) rfl (AeE _ l) (Ap rfl),Ap rfl⟩,fun h2=>Ba ?_,fun h2=>Ba ?_⟩⟩
 ·have h:(Eh m).1≠0:=by simpa using h
  rw[hq,decide_eq_true h]<;>rfl
 ·show(bif bif bif bif decide (x.Op=32) then true else decide (x.Op=36) then true else decide (x.Op=37) then true else decide (x.Op=38) then true else bif decide (x.Op=2) then decide (x.V.Scope=2) else false)=Mx x
  unfold Mx
  cases decide (x.Op=32)<;>cases decide (x.Op=36)<;>cases decide (x.Op=37)<;>cases decide (x.Op=38)<;>cases decide (x.Op=2)<;>rfl
 ·unfold Ni
  show(!decide _)=decide (¬ _)
  simp
 all_goals
  have h:(Eh m).1=0:=by simpa using h
  rw[hq,decide_eq_false (fun hn=>hn h),cond_false]
  revert h2
  unfold I3
  show(bif bif bif decide (0<=m.Claim) then true else _ then true else _ then true else _)=_->_
  cases decide (0<=m.Claim)<;>cases m.Exprs.any Mx<;>cases m.Procs.any (Ni m)<;>cases m.Exprs.any PQ<;>cases m.Procs.any U8<;>simp
theorem Aay (hw:A2 m):Al Tryz.prog 5 [] [.agg (Af m)] [] (Aa (Acl m)):=by
 have hE:=hw.Exprs.1
 have hP:=hw.Procs.1
 have hq:Acl m=bif JX m then(bif I3 m then 44 else 0) else 40:=rfl
 generalize Acl m=R at hq ⊢
 refine Ag Ai Aj Tryz.func5 (by kernel_rfl) rfl (Ady R m) ⟨JX m,IY hw,fun h=>Ba ?_,fun h=>⟨fun hc=>Ba ?_,fun hc=>?_⟩⟩
 ·rw[hq,show JX m=false by simpa using h]<;>rfl
 ·rw[hq,show JX m=true by simpa using h,cond_true]
  have:0<=m.Claim:=of_decide_eq_true hc
  unfold I3
  rw[decide_eq_true this]<;>rfl
 rw[show JX m=true by simpa using h,cond_true]at hq
 have hc:¬ 0<=m.Claim:=of_decide_eq_false hc
 unfold I3 at hq
 rw[decide_eq_false hc,Bool.false_or]at hq
 clear h
 refine AA Ai Aj (fun gg st=>∃ k:Nat,k<=m.Procs.length/\gg=m.Procs.length - k/\(m.Procs.take k).any (Ni m)=false/\st=YD m k) (by kernel_rfl) (by kernel_rfl) ⟨_,Up.of ⟨0,Nat.zero_le _,rfl,rfl,rfl⟩⟩ ?_
 rintro gg st ⟨k,hk,rfl,hp,rfl⟩
 have hkn:(k:Int).toNat=k:=by omega
 refine AY.raw (AaC R m k _) ⟨fun hlt=>?_,fun hge=>?_⟩
 ·have hlt':k<m.Procs.length:=by have:=AG hlt;omega
  rw[hkn]
  refine⟨⟨by omega,by omega⟩,⟨by omega,by omega⟩,fun hy=>Ba ?_,fun hy=>⟨m.Procs.length - (k+1),by omega,Up.of ⟨k+1,hlt',rfl,?_,by rw[Ak (by omega)]⟩⟩⟩
  ·have:m.Procs.any (Ni m)=true:=LZ (d:=default) hlt' (by
    unfold Ni
    rw[show Int.toNat 0=0 from rfl]at hy
    simpa using hy)
   rw[hq,this]<;>simp
  ·rw[Jf hlt',hp,Bool.false_or]
   unfold Ni
   rw[show Int.toNat 0=0 from rfl]at hy
   simpa using hy
 rw[List.take_of_length_le (by have:=AI hge;omega)]at hp
 rw[hp,Bool.or_false]at hq
 refine AA Ai Aj (fun gg st=>∃ k:Nat,k<=m.Exprs.length/\gg=m.Exprs.length - k/\(m.Exprs.take k).any Mx=false/\st=M0 m ((m.Exprs.take k).any PQ) 6 k) (by kernel_rfl) (by kernel_rfl) ⟨_,Up.of ⟨0,Nat.zero_le _,rfl,rfl,rfl⟩⟩ ?_
 clear hge
 rintro gg st ⟨k,hk,rfl,hf,rfl⟩
 have hkn:(k:Int).toNat=k:=by omega
 refine AY.raw (AaB R m ((m.Exprs.take k).any PQ) k _) ⟨fun hlt=>?_,fun hge=>?_⟩
 ·have hlt':k<m.Exprs.length:=by have:=AG hlt;omega
  rw[hkn]
  have hX:(bif bif decide ((m.Exprs.getD k default).Op=32) then true else(bif decide ((m.Exprs.getD k default).Op>=36) then decide ((m.Exprs.getD k default).Op<=38) else false) then true else bif decide ((m.Exprs.getD k default).Op=2) then decide ((m.Exprs.getD k default).V.Scope=2) else false)=Mx (m.Exprs.getD k default):=by
   unfold Mx
   generalize m.Exprs.getD k default=x
   by_cases h1:x.Op=32
   ·simp[h1]
   ·by_cases h2:x.Op=36∨x.Op=37∨x.Op=38
    ·rcases h2 with h2 | h2 | h2<;>simp[h2]
    ·have:¬ (36<=x.Op/\x.Op<=38):=by omega
     have h3:(bif decide (x.Op>=36) then decide (x.Op<=38) else false)=false:=by
      by_cases h4:36<=x.Op
      ·have:¬ x.Op<=38:=by omega
       simp[this]
      ·simp[h4]
     rw[h3]
     have h5:x.Op≠36/\x.Op≠37/\x.Op≠38:=⟨fun h=>h2 (.inl h),fun h=>h2 (.inr (.inl h)),fun h=>h2 (.inr (.inr h))⟩
     simp only[decide_eq_false h1,decide_eq_false h5.1,decide_eq_false h5.2.1,decide_eq_false h5.2.2,cond_false,Bool.or_self,Bool.false_or]
     cases decide (x.Op=2)<;>rfl
  refine⟨⟨by omega,by omega⟩,fun hy=>Ba ?_,fun hy=>⟨m.Exprs.length - (k+1),by omega,Up.of ⟨k+1,hlt',rfl,?_,?_⟩⟩⟩
  ·have:m.Exprs.any Mx=true:=LZ (d:=default) hlt' (hX.symm.trans hy)
   rw[hq,this]<;>rfl
  ·rw[Jf hlt',hf,Bool.false_or]
   exact hX.symm.trans hy
  ·rw[Ak (by omega),Jf (d:=default) hlt']
   have:(bif (m.Exprs.take k).any PQ then true else(m.Exprs.getD k default).Op==35)=((m.Exprs.take k).any PQ||PQ (m.Exprs.getD k default)):=by
    cases (m.Exprs.take k).any PQ<;>rfl
   rw[this]
 rw[List.take_of_length_le (by have:=AI hge;omega)]at hf
 rw[List.take_of_length_le (by have:=AI hge;omega)]
 rw[hf,Bool.false_or]at hq
 generalize m.Exprs.any PQ=t at hq ⊢
 clear hge hf hk hkn
 refine AA Ai Aj (fun gg st=>∃ k:Nat,k<=m.Procs.length/\gg=m.Procs.length - k/\(t=true->(m.Procs.take k).any U8=false)/\st=M0 m t 8 k) (by kernel_rfl) (by kernel_rfl) ⟨_,Up.of ⟨0,Nat.zero_le _,rfl,fun _=>rfl,rfl⟩⟩ ?_
 rintro gg st ⟨k,hk,rfl,ha,rfl⟩
 have hkn:(k:Int).toNat=k:=by omega
 refine AY.raw (AaA R m t k _) ⟨fun hlt=>?_,fun hge=>Ba ?_⟩
 ·have hlt':k<m.Procs.length:=by have:=AG hlt;omega
  have hL:=(hw.Procs.2 _ (An (d:=default) hlt')).Locs.1
  refine AA Ai Aj (fun gg st=>∃ j:Nat,j<=(m.Procs.getD k default).Locs.length/\gg=(m.Procs.getD k default).Locs.length - j/\(t=true->((m.Procs.getD k default).Locs.take j).any (fun l=>l.Atomic)=false)/\st=YC m t k j) (by kernel_rfl) (by kernel_rfl) ⟨_,Up.of ⟨0,Nat.zero_le _,rfl,fun _=>rfl,rfl⟩⟩ ?_
  rintro gg st ⟨j,hj,rfl,hb,rfl⟩
  have hjn:(j:Int).toNat=j:=by omega
  refine AY.raw (Aaz R m t k j _ _) ?_
  rw[hkn,hjn]
  refine⟨⟨by omega,by omega⟩,fun hlt2=>?_,fun hge2=>?_⟩
  ·have hlt2':j<(m.Procs.getD k default).Locs.length:=by have:=AG hlt2;omega
   refine⟨fun _=>⟨by omega,by omega⟩,fun _=>⟨by omega,by omega⟩,fun hy=>Ba ?_,fun hy=>⟨_,by omega,Up.of ⟨j+1,hlt2',rfl,fun ht=>?_,by rw[Ak (by omega)]⟩⟩⟩
   ·cases t with
    | false=>cases hy
    | true =>
     have:m.Procs.any U8=true:=LZ (d:=default) hlt' (LZ (d:=default) hlt2' hy)
     rw[hq,this]<;>rfl
   ·subst ht
    rw[Jf (d:=default) hlt2',hb rfl]
    exact hy
  ·refine⟨_,by omega,Up.of ⟨k+1,hlt',rfl,fun ht=>?_,by rw[Ak (by omega)]⟩⟩
   have:=hb ht
   rw[List.take_of_length_le (by have:=AI hge2;omega)]at this
   rw[Jf (d:=default) hlt',ha ht]
   exact this
 ·rw[List.take_of_length_le (by have:=AI hge;omega)]at ha
  rw[hq]
  cases t with
  | false=>rfl
  | true=>rw[ha rfl]<;>rfl
end
section
variable {m : D.Model} {s:D.State}
theorem Gs.exprs (h:Gs m s):∀ i:Nat,i<m.Exprs.length->CP m i=true:=Jb (Jt (CB h.may).1)
def KW (m:D.Model)(s:D.State)(l:List Nx)(i:Nat):Bool:=DV m (AN m (s.Procs.getD i default).Type_) ((AN m (s.Procs.getD i default).Type_).Locs.getD (s.Procs.getD i default).Loc.toNat default)&&l.any fun n=>decide (n.Move.Pid=i)
def E7 (m:D.Model)(s:D.State)(l:List Nx)(k:Nat):List Int:=((List.range k).filter fun i=>KW m s l i).map Int.ofNat
theorem Vc {l:List Nx}{k:Nat}:E7 m s l (k+1)=bif KW m s l k then E7 m s l k++[(k:Int)] else E7 m s l k:=by
 unfold E7
 rw[List.range_succ,List.filter_append,List.map_append]
 cases h:KW m s l k<;>simp[h]
theorem PF {l:List Nx}{k:Nat}:(E7 m s l k).length<=k:=by
 unfold E7
 rw[List.length_map]
 have:=List.length_filter_le (fun i=>KW m s l i) (List.range k)
 simpa using this
theorem Um (h:Gs m s)(ha:PH m=0){l:List Nx}(hl:l.length<=4611686018427387904):Al Tryz.prog 8 [] [.agg (Af m),.agg (Ae s),BC true l] [] (.tup [Ad true (GP m s l),Aa 0]):=by
 have hpl:=h.fit.p
 refine Ag Ai Aj Tryz.func8 (by kernel_rfl) rfl (Xp (GP m s l,0) m s l) ⟨PH m,Mj h.wf,fun hb=>?_,fun _=>⟨B3 m s,RE h.wf h.small (fun h=>(XD h).clp),fun hb=>?_,fun _=>?_⟩⟩
 ·rw[ha]at hb;simp at hb
 ·rw[h.check]at hb;simp at hb
 have hz:GP m s l=E7 m s l s.Procs.length:=rfl
 rw[hz]
 refine Aq.own 2 10 1 (AJ []) rfl ?_
 refine AA Ai Aj (fun gg st=>∃ k:Nat,k<=s.Procs.length/\gg=s.Procs.length - k/\st=AhI m l s.Procs (E7 m s l k) k) (by kernel_rfl) (by kernel_rfl) ⟨_,Up.of ⟨0,Nat.zero_le _,rfl,rfl⟩⟩ ?_
 rintro gg st ⟨k,hk,rfl,rfl⟩
 have hkn:(k:Int).toNat=k:=by omega
 have hlen:=PF (m:=m) (s:=s) (l:=l) (k:=k)
 refine AY.raw (Un _ m l s.Procs (E7 m s l k) k _) ⟨fun hlt=>?_,fun hge=>?_⟩
 ·have hlt':k<s.Procs.length:=by have:=AG hlt;omega
  rw[hkn]
  have hpid:=(h.pid (i:=(k:Int)) (t:=false) (a:=[]) ⟨by omega,by omega⟩).1
  obtain⟨f1,f2,_⟩:=DI (h.fits.p _ (An (d:=default) hlt'))
  have hws:=hpid.ws (ws:=(Br (AD m s k)).Out) (List.mem_cons_self ..)
  have e1:BQ (AD m s k)=AN m (s.Procs.getD k default).Type_:=rfl
  have e2:Br (AD m s k)=(AN m (s.Procs.getD k default).Type_).Locs.getD (s.Procs.getD k default).Loc.toNat default:=rfl
  rw[show BQ (D.Env.mk m s k false [])=AN m (s.Procs.getD k default).Type_ from rfl,e2]at hws
  have hp:=h.wf.Procs.2 _ (An (d:=default) (show(s.Procs.getD k default).Type_.toNat<m.Procs.length by omega))
  have hQ:KW m s l k=(DV m (AN m (s.Procs.getD k default).Type_) ((AN m (s.Procs.getD k default).Type_).Locs.getD (s.Procs.getD k default).Loc.toNat default)&&l.any fun n=>decide (n.Move.Pid=k)):=rfl
  have hnext:=Vc (m:=m) (s:=s) (l:=l) (k:=k)
  refine⟨⟨by omega,by omega⟩,f1,f2,_,OY (p:=AN m (s.Procs.getD k default).Type_) h.exprs h.wf.Shapes.1 hp (Nat.le_trans hws.len (by decide)) hws.st hws.to,l.any fun n=>decide (n.Move.Pid=k),fun _=>AeA _ hl fun n _=>Ag Ai Aj Tryz.func23 (by kernel_rfl) rfl (AeH _ n k) (Ap rfl),fun hy=>⟨by omega,s.Procs.length - (k+1),by omega,?_⟩,fun hy=>⟨s.Procs.length - (k+1),by omega,Up.of ⟨k+1,hlt',rfl,?_⟩⟩⟩
  ·have hy:KW m s l k=true:=(hQ.trans (BD _ _).symm).trans hy
   rw[hy,cond_true]at hnext
   rw[Ak (by omega)]
   refine Up.mk (l':=[(2,BC true l),(3,.bp 0 0),(10,.ow 1 0 (E7 m s l (k+1)).length),(26,Ay true s.Procs),(27,Aa s.Procs.length),(28,Aa ((k+1:Nat):Int))]) (hs':=[.box (Af m),.arr true 0 (E7 m s l (k+1)).length 1 (AJ (E7 m s l (k+1)))]) ?_ ?_ ⟨k+1,hlt',rfl,rfl⟩
   ·rw[hnext,List.length_append];exact AU _
   ·rw[hnext,List.length_append]
    refine⟨Ob.le_refl _,Ob.le_arr fun i hi=>AZ ?_,trivial⟩
    exact Bz (l:=E7 m s l k) (r:=[(k:Int)]) (f:=fun w=>[Aa w]) (d:=0) (F:=AJ (E7 m s l k)) (G:=fun i=>(([Aa k]:List VV).drop (i*1)).take 1) (fun i hi=>rfl) (fun i hi=>by
     obtain rfl:i=0:=by simpa using hi
     rfl) (by simpa using hi)
  ·have hy:KW m s l k=false:=(hQ.trans (BD _ _).symm).trans hy
   rw[hy,cond_false]at hnext
   rw[hnext,Ak (by omega)]
 ·obtain rfl:k=s.Procs.length:=by have:=AI hge;omega
  exact⟨trivial,VV.le_refl _⟩
theorem Zk {i:Int}:leL [.agg [Az true m.Globals,Ad true m.Init,AX true m.Shapes,Ad true m.Chans,AM true m.Procs,Aa m.Claim,A7 true m.Exprs,Ad true s.Globals,AV true s.Chans,Ay true s.Procs,Aa s.Last,Aa s.Alone,Aa s.Claim,Aa i,Ac false,.nl]] [.agg (Ah (AD m s i))] :=
 ⟨VV.le_agg ⟨VV.le_refl _,VV.le_refl _,VV.le_refl _,VV.le_refl _,VV.le_refl _,VV.le_refl _,VV.le_refl _,VV.le_refl _,VV.le_refl _,VV.le_refl _,VV.le_refl _,VV.le_refl _,VV.le_refl _,VV.le_refl _,VV.le_refl _,VV.le_nil,trivial⟩,trivial⟩
theorem Q2 (h:Gs m s){i:Int}(hi:0<=i/\i<s.Procs.length)(w:Wy):Al Tryz.prog 10 [] [.agg (Af m),.agg (Ae s),Aa i,.agg (Bu w)] [] (Ac ((AF (AD m s i)).any fun v=>decide (v=w))):=by
 have hp:=(h.pid (i:=i) (t:=false) (a:=[]) hi).1
 have hlen:=JG hp
 have hw:=Al.le (hs1:=[]) (hs2:=[]) (Gt hp) trivial Zk trivial (VV.le_refl _)
 show Al _ _ _ _ _ (Ac ((AF (D.Env.mk m s i false [])).any _))
 generalize hl:AF (D.Env.mk m s i false [])=l at hlen hw ⊢
 generalize hR:(l.any fun v=>decide (v=w))=R
 refine Ag Ai Aj Tryz.func10 (by kernel_rfl) rfl (Ae4 R m s i w) ⟨l,hw,?_⟩
 refine AA Ai Aj (fun gg st=>∃ k:Nat,k<=l.length/\gg=l.length - k/\((l.drop k).any fun v=>decide (v=w))=R/\st=YQ w l k) (by kernel_rfl) (by kernel_rfl) ⟨_,Up.of ⟨0,Nat.zero_le _,rfl,hR,rfl⟩⟩ ?_
 rintro gg st ⟨k,hk,rfl,hr,rfl⟩
 have hkn:(k:Int).toNat=k:=by omega
 refine AY.raw (AbG R w l k _) ⟨fun hlt=>?_,fun hge=>Ap ?_⟩
 ·have hlt':k<l.length:=by have:=AG hlt;omega
  rw[hkn]
  rw[Bb (d:=default) hlt',List.any_cons]at hr
  generalize l.getD k default=v at hr ⊢
  have he:(v.Esc==w.Esc&&(v.Way==w.Way&&(v.With==w.With&&(v.WithEsc==w.WithEsc&&(v.WithWay==w.WithWay&&(v.Err==w.Err&&true))))))=decide (v=w):=by
   rw[Bool.eq_iff_iff,decide_eq_true_eq]
   cases v
   cases w
   simp only[Bool.and_eq_true,beq_iff_eq,Wy.mk.injEq,and_true]
  refine⟨⟨by omega,by omega⟩,fun hy=>Ap ?_,fun hy=>⟨l.length - (k+1),by omega,Up.of ⟨k+1,hlt',rfl,?_,by rw[Ak (by omega)]⟩⟩⟩
  ·rw[← hr,he.symm.trans hy]<;>rfl
  ·rw[← hr,he.symm.trans hy]<;>rfl
 ·rw[← hr,List.drop_of_length_le (by have:=AI hge;omega)]<;>rfl
theorem Ia (h:Gs m s){i:Int}(hi:0<=i/\i<s.Procs.length){w:Wy}(hw:w∈AF (AD m s i)):Al Tryz.prog 9 [] [.agg (Af m),.agg (Ae s),Aa i,.agg (Bu w)] [] (.tup [.agg (Ae (BH (goP (AD m s i) w).1)),Aa (goP (AD m s i) w).2.2]):=by
 have hp:=(h.pid (i:=i) (t:=false) (a:=[]) hi).1
 refine Ag Ai Aj Tryz.func9 (by kernel_rfl) rfl (AbH (BH (goP (AD m s i) w).1,(goP (AD m s i) w).2.2) m s i w) ⟨goP (AD m s i) w,Al.le (OP S4 Uf hp hw) trivial ⟨Zk.1,VV.le_refl _,trivial⟩ trivial (VV.le_refl _),trivial,VV.le_refl _⟩
end
theorem HM {l:List Int}:MZ (Ad false l) (Ad true l):=FX fun _ _=>⟨Bt,trivial⟩
theorem Oi {l:List D.Type}:MZ (Az false l) (Az true l):=FX fun _ _=>⟨Bt,Bt,trivial⟩
theorem Yv {l:List D.Trans}:MZ (Jc l) (As true l):=FX fun _ _=>⟨Bt,Bt,Bt,Bt,HM,HM,Bt,Bt,Bt,trivial⟩
theorem AcI {x:D.Loc}:La (Po x) (Bf x):=⟨Yv,FX fun _ _=>⟨Yv,trivial⟩,Bt,Bt,Bt,Bt,Bt,trivial⟩
theorem Yw {x:D.Proc}:La (Fq x) (AO x):=⟨Bt,Bt,Oi,HM,FX fun _ _=>AcI,Bt,Bt,Bt,Bt,Bt,trivial⟩
theorem Oj {x:D.Model}:La (Ck x) (Af x) :=
 ⟨Oi,HM,FX fun _ _=>⟨Bt,Oi,trivial⟩,HM,FX fun _ _=>Yw,Bt,FX fun _ _=>⟨Bt,Bt,Bt,Bt,Bt,Bt,Bt,Bt,Bt,FX fun _ _=>⟨Bt,Bt,Bt,trivial⟩,HM,HM,trivial⟩,trivial⟩
section
variable {m : D.Model}
theorem AhB (hw:A2 m)(hm:F2 m=true){i:Nat}(hi:i<m.Procs.length){l:D.Loc}(hl:l∈(m.Procs.getD i default).Locs):Ahj m (m.Procs.getD i default).Locs.length l.Out:=by
 have hws:l.Out∈Bw l:=List.mem_cons_self ..
 have hg:=Pd (EJ (CB hm).2.1 _ hi).2 _ hl _ hws
 refine⟨hg.1,fun t ht=>⟨?_,?_⟩,hg.2⟩
 ·have:=SJ hm hi hl hws ht
  unfold JV at this
  grind
 ·exact(((hw.Procs.2 _ (An hi)).Locs.2 _ hl).Out.2 _ ht).S
def DF (m:D.Model)(p:D.Proc):List Bool:=p.Locs.map (DV m p)
def VM (m:D.Model):List (List Bool):=m.Procs.map (DF m)
theorem Xr (hw:A2 m)(hm:F2 m=true)(ha:PH m=0):Al Tryz.prog 13 [] [.agg (Ck m)] [] (.tup [C0 true (VM m),Aa 0]):=by
 have he:∀ i:Nat,i<m.Exprs.length->CP m i=true:=Jb (Jt (CB hm).1)
 have hP:=hw.Procs.1
 refine Ag Ai Aj Tryz.func13 (by kernel_rfl) rfl (Abp (VM m,0) m) ⟨PH m,(Mj hw).thaw OZ ⟨IP Oj,trivial⟩,fun hb=>?_,fun _=>?_⟩
 ·rw[ha]at hb;simp at hb
 refine Aq.own 1 5 1 (H1 []) rfl ?_
 refine AA Ai Aj (fun gg st=>∃ k:Nat,k<=m.Procs.length/\gg=m.Procs.length - k/\st=AiG m ((m.Procs.take k).map (DF m)) k) (by kernel_rfl) (by kernel_rfl) ⟨_,Up.of ⟨0,Nat.zero_le _,rfl,rfl⟩⟩ ?_
 rintro gg st ⟨k,hk,rfl,rfl⟩
 have hkn:(k:Int).toNat=k:=by omega
 have hlen:((m.Procs.take k).map (DF m)).length=k:=by rw[List.length_map,List.length_take];omega
 refine AY.raw (Xt _ m ((m.Procs.take k).map (DF m)) k _) ⟨fun hlt=>?_,fun hge=>?_⟩
 ·have hlt':k<m.Procs.length:=by have:=AG hlt;omega
  rw[hkn]
  have hp:=hw.Procs.2 _ (An (d:=default) hlt')
  have hmem:=fun l (hl:l∈(m.Procs.getD k default).Locs)=>AhB hw hm hlt' hl
  have hpush:(m.Procs.take (k+1)).map (DF m)=(m.Procs.take k).map (DF m)++[DF m (m.Procs.getD k default)]:=by rw[CU (d:=default) hlt',List.map_append]<;>rfl
  generalize m.Procs.getD k default=p at hp hmem hpush ⊢
  have hL:=hp.Locs.1
  refine⟨⟨by omega,by omega⟩,?_⟩
  refine Aq.own 3 8 1 (Qw []) rfl ?_
  refine AA Ai Aj (fun gg st=>∃ j:Nat,j<=p.Locs.length/\gg=p.Locs.length - j/\st=AiF m ((m.Procs.take k).map (DF m)) k p ((p.Locs.take j).map (DV m p)) j) (by kernel_rfl) (by kernel_rfl) ⟨_,Up.of ⟨0,Nat.zero_le _,rfl,rfl⟩⟩ ?_
  rintro gg st ⟨j,hj,rfl,rfl⟩
  have hjn:(j:Int).toNat=j:=by omega
  have hlen2:((p.Locs.take j).map (DV m p)).length=j:=by rw[List.length_map,List.length_take];omega
  refine AY.raw (Xs _ m ((m.Procs.take k).map (DF m)) k p ((p.Locs.take j).map (DV m p)) j _ _) ⟨fun hlt2=>?_,fun hge2=>?_⟩
  ·have hlt2':j<p.Locs.length:=by have:=AG hlt2;omega
   rw[hjn]
   have hws:=hmem _ (An (d:=default) hlt2')
   have hpush2:(p.Locs.take (j+1)).map (DV m p)=(p.Locs.take j).map (DV m p)++[DV m p (p.Locs.getD j default)]:=by rw[CU (d:=default) hlt2',List.map_append]<;>rfl
   refine⟨⟨by omega,by omega⟩,_,(OY he hw.Shapes.1 hp (Nat.le_trans hws.len (by decide)) hws.st hws.to).thaw OZ ⟨IP Oj,IP Yw,IP AcI,trivial⟩,by rw[hlen2];omega,p.Locs.length - (j+1),by omega,?_⟩
   rw[Ak (by omega)]
   refine Up.mk (l':=[(1,.bp 0 0),(5,.ow 1 0 ((m.Procs.take k).map (DF m)).length),(7,.bp 2 0),(8,.ow 3 0 ((p.Locs.take (j+1)).map (DV m p)).length),(17,DJ m.Procs),(18,Aa m.Procs.length),(19,Aa k),(24,HA p.Locs),(25,Aa p.Locs.length),(26,Aa ((j+1:Nat):Int))])
    (hs':=[.box (Ck m),.arr true 0 ((m.Procs.take k).map (DF m)).length 1 (H1 ((m.Procs.take k).map (DF m))),.box (Fq p),.arr true 0 ((p.Locs.take (j+1)).map (DV m p)).length 1 (Qw ((p.Locs.take (j+1)).map (DV m p)))]) ?_ ?_ ⟨j+1,hlt2',rfl,rfl⟩
   ·rw[hpush2,List.length_append];exact AU _
   ·rw[hpush2,List.length_append]
    refine⟨Ob.le_refl _,Ob.le_refl _,Ob.le_refl _,Ob.le_arr fun i hi=>AZ ?_,trivial⟩
    exact Bz (l:=(p.Locs.take j).map (DV m p)) (r:=[DV m p (p.Locs.getD j default)]) (f:=fun b=>[Ac b]) (d:=false) (F:=Qw ((p.Locs.take j).map (DV m p))) (G:=fun i=>(([Ac (DV m p (p.Locs.getD j default))]:List VV).drop (i*1)).take 1) (fun i hi=>rfl) (fun i hi=>by
     obtain rfl:i=0:=by simpa using hi
     rfl) (by simpa using hi)
  ·rw[List.take_of_length_le (l:=p.Locs) (by have:=AI hge2;omega)]
   refine⟨by rw[hlen];omega,m.Procs.length - (k+1),by omega,?_⟩
   rw[Ak (by omega)]
   refine Up.mk (l':=[(1,.bp 0 0),(5,.ow 1 0 ((m.Procs.take (k+1)).map (DF m)).length),(17,DJ m.Procs),(18,Aa m.Procs.length),(19,Aa ((k+1:Nat):Int))])
    (hs':=[.box (Ck m),.arr true 0 ((m.Procs.take (k+1)).map (DF m)).length 1 (H1 ((m.Procs.take (k+1)).map (DF m)))]) ?_ ?_ ⟨k+1,hlt',rfl,rfl⟩
   ·rw[hpush,List.length_append];exact AU _
   ·rw[hpush,List.length_append]
    refine⟨Ob.le_refl _,Ob.le_arr fun i hi=>AZ ?_,trivial⟩
    exact Bz (l:=(m.Procs.take k).map (DF m)) (r:=[DF m p]) (f:=fun b=>[AR true b]) (d:=[]) (F:=H1 ((m.Procs.take k).map (DF m))) (G:=fun i=>([[AR true (DF m p)]]:List (List VV)).getD i []) (fun i hi=>rfl) (fun i hi=>by
     obtain rfl:i=0:=by simpa using hi
     rfl) (by simpa using hi)
 ·rw[List.take_of_length_le (by have:=AI hge;omega)]
  exact⟨trivial,VV.le_refl _⟩
end
def PV (o n s w t:Int):D.Expr:=⟨o,n,-1,-1,-1,⟨s,0,w,t,[]⟩,[],[]⟩
def Ad2 (a t:Int):D.Trans:=⟨⟨2,a,0,0,[],[],ByteArray.empty⟩,t,0⟩
def Xl (l:List D.Trans):D.Loc:=⟨l,[],false,false,false,false,false⟩
def Ai1 : D.Proc:=⟨ByteArray.empty,0,[⟨8,false⟩],[0],[Xl [Ad2 1 1],Xl [Ad2 2 2],Xl []],0,2,0,1,-1⟩
def Abl (l:List D.Expr):D.Model:=⟨[⟨8,false⟩],[0],[],[],[Ai1],-1,[PV 1 1 0 0 0,PV 2 0 1 (-1) (-1),PV 2 0 0 (-1) (-1)]++l⟩
theorem Yg {o n s w t:Int}(h1:Ev.wInt .i64 o)(h2:Ev.wInt .i64 n)(h3:Ev.wInt .i64 s)(h4:Ev.wInt .i64 w)(h5:Ev.wInt .i64 t):GS (PV o n s w t):=⟨h1,h2,rfl,rfl,rfl,⟨h3,rfl,h4,h5,G4⟩,G4,G4⟩
theorem Yh {a t:Int}(h1:Ev.wInt .i64 a)(h2:Ev.wInt .i64 t):Kd (Xl [Ad2 a t]):=by
 refine⟨⟨by show 1<=1048576;decide,fun y hy=>?_⟩,G4,trivial,trivial,trivial,trivial,trivial⟩
 obtain rfl:=List.mem_singleton.1 hy
 exact⟨⟨rfl,h1,rfl,rfl,G4,G4,Nat.zero_le _⟩,h2,rfl⟩
theorem AfX : Fw Ai1:=by
 refine⟨Nat.zero_le _,rfl,⟨by decide,fun y hy=>?_⟩,⟨by decide,fun y hy=>?_⟩,⟨by decide,fun y hy=>?_⟩,rfl,rfl,rfl,rfl,rfl⟩
 ·obtain rfl:=List.mem_singleton.1 hy
  exact⟨rfl,trivial⟩
 ·obtain rfl:=List.mem_singleton.1 hy
  rfl
 ·have hy:y∈[Xl [Ad2 1 1],Xl [Ad2 2 2],Xl []]:=hy
  simp only[List.mem_cons,List.not_mem_nil,or_false]at hy
  rcases hy with rfl | rfl | rfl
  ·exact Yh rfl rfl
  ·exact Yh rfl rfl
  ·exact⟨G4,G4,trivial,trivial,trivial,trivial,trivial⟩
theorem Yi {l:List D.Expr}(hl:l.length<=1000)(h:∀ x∈l,GS x):A2 (Abl l):=by
 refine⟨⟨by show 1<=1048576;decide,fun y hy=>?_⟩,⟨by show 1<=1048576;decide,fun y hy=>?_⟩,G4,G4,⟨by show 1<=1048576;decide,fun y hy=>?_⟩,rfl,⟨?_,fun y hy=>?_⟩⟩
 ·obtain rfl:=List.mem_singleton.1 hy
  exact⟨rfl,trivial⟩
 ·obtain rfl:=List.mem_singleton.1 hy
  rfl
 ·obtain rfl:=List.mem_singleton.1 hy
  exact AfX
 ·show([_,_,_]++l).length<=_
  simp
  omega
 ·have hy:y∈[PV 1 1 0 0 0,PV 2 0 1 (-1) (-1),PV 2 0 0 (-1) (-1)]++l:=hy
  rw[List.mem_append]at hy
  rcases hy with hy | hy
  ·simp only[List.mem_cons,List.not_mem_nil,or_false]at hy
   rcases hy with rfl | rfl | rfl<;>exact Yg rfl rfl rfl rfl rfl
  ·exact h y hy
theorem AeW : F2 (Abl [])=true:=by kernel_rfl
theorem AfQ : PH (Abl [])=0:=by kernel_rfl
theorem AfP : PH (Abl [PV 32 0 0 0 0])=44:=by kernel_rfl
theorem VL : VM (Abl [])=[[true,false,false]]:=by kernel_rfl
theorem XC : Al Tryz.prog 4 [] [] [] (Ac true):=by
 have h1:=Xr (Yi (l:=[]) (by decide) fun x hx=>by cases hx) AeW AfQ
 rw[VL]at h1
 have h2:=(Mj (Yi (l:=[PV 32 0 0 0 0]) (by decide) fun x hx=>by obtain rfl:=List.mem_singleton.1 hx;exact Yg rfl rfl rfl rfl rfl)).thaw (ys:=[.agg (Ck (Abl [PV 32 0 0 0 0]))]) OZ ⟨IP Oj,trivial⟩
 rw[AfP]at h2
 exact Ag Ai Aj Tryz.func4 (by kernel_rfl) rfl (AbB true) ⟨([[true,false,false]],0),Al.le h1 trivial ⟨Sf 9 _ _ (by kernel_rfl),trivial⟩ trivial (VV.le_refl _),fun _=>⟨by decide,by decide⟩,fun h=>by simp at h,fun _=>⟨by decide,44,Al.le h2 trivial ⟨Sf 9 _ _ (by kernel_rfl),trivial⟩ trivial (VV.le_refl _),
  fun _=>⟨by decide,by decide⟩,fun _=>⟨by decide,by decide⟩,fun _=>⟨by decide,by decide⟩,fun _=>⟨by decide,by decide⟩,fun _=>⟨by decide,by decide⟩,fun _=>⟨by decide,by decide⟩,Ap (by decide)⟩⟩
theorem YA {e:D.Env}{w:Wy}:(Dl e w).Move=Dv e w:=by
 unfold Dl
 cases decide ((goP e w).2.2≠0) with
 | true=>rfl
 | false =>
  cases decide ((onS e.M e.Pid 200 (goP e w).1 noT).2.2≠0)<;>rfl
section
variable {m : D.Model} {s:D.State}
theorem Aiu (hw:A2 m)(hm:F2 m=true)(hq:I3 m=false):Adm m:=by
 have he:∀ i:Nat,i<m.Exprs.length->CP m i=true:=Jb (Jt (CB hm).1)
 have hf:m.Exprs.any Mx=false:=by
  unfold I3 at hq
  simp only[Bool.or_eq_false_iff]at hq
  exact hq.1.2.1
 have far:∀ x:Int,Mx (Ao m x)=false:=fun x=>by
  rcases Nat.lt_or_ge x.toNat m.Exprs.length with h | h
  ·rw[List.any_eq_false]at hf
   exact Bool.eq_false_iff.2 (hf _ (An (d:=default) h))
  ·have:Ao m x=default:=by
    unfold Ao
    rw[List.getD_eq_getElem?_getD,List.getElem?_eq_none h]<;>rfl
   rw[this]<;>rfl
 refine⟨hw,hm,fun x=>?_,fun x h2=>?_⟩
 ·have:=far x
  unfold Mx at this
  simp only[Bool.or_eq_false_iff,decide_eq_false_iff_not]at this
  exact⟨this.1.1,this.1.2.1,this.1.2.2.1,this.1.2.2.2⟩
 ·have hfx:=far x
  unfold Mx at hfx
  simp only[Bool.or_eq_false_iff,Bool.and_eq_false_iff,decide_eq_false_iff_not]at hfx
  have hsc:(Ao m x).V.Scope≠2:=by
   rcases hfx.2 with h | h
   ·exact absurd h2 h
   ·exact h
  rcases Nat.lt_or_ge x.toNat m.Exprs.length with h | h
  ·have hx:=he x.toNat h
   have e:Ao m ((x.toNat:Nat):Int)=Ao m x:=by unfold Ao;rw[Int.toNat_natCast]
   have hok:=Pj hx
   rw[e]at hok
   have:=(HL (hok.var h2)).scope
   omega
  ·have:Ao m x=default:=by
    unfold Ao
    rw[List.getD_eq_getElem?_getD,List.getElem?_eq_none h]<;>rfl
   rw[this]at h2
   cases h2
theorem B5.gsI {i:Int}(h:B5 (AD m s i)):Gs m s/\0<=i/\i<s.Procs.length:=⟨⟨h.ok.wf,h.ok.may,Cw.1 h.ok.fits⟩,h.p0,h.ok.pid.2⟩
theorem Va {l:List Wy}{w:Wy}(h:w∈l):(l.any fun v=>decide (v=w))=true:=List.any_eq_true.2 ⟨w,h,by simp⟩
theorem Acj {l:List Nx}{i:Nat}(hi:i<(GP m s l).length):∃ k:Nat,k<s.Procs.length/\(GP m s l).getD i 0=k/\DV m (AN m (s.Procs.getD k default).Type_) ((AN m (s.Procs.getD k default).Type_).Locs.getD (s.Procs.getD k default).Loc.toNat default)=true:=by
 have hm:=An (d:=(0:Int)) hi
 generalize (GP m s l).getD i 0=q at hm ⊢
 unfold GP at hm
 obtain⟨k,hk,rfl⟩:=List.mem_map.1 hm
 rw[List.mem_filter,List.mem_range,Bool.and_eq_true]at hk
 exact⟨k,hk.1,rfl,hk.2.1⟩
theorem AbC (hw:A2 m)(hs:F4 s):Al Tryz.prog 3 [] [.agg (Af m),.agg (Ae s)] [] (Ac true):=by
 refine Ag Ai Aj Tryz.func3 (by kernel_rfl) rfl (AeY true m s) ⟨true,XC,Acl m,Aay hw,fun h=>⟨FF m s,RR hw hs,fun _=>Ap rfl,fun hb=>?_⟩,fun h=>⟨fun _=>Ap rfl,fun h'=>?_⟩⟩
 case refine_2=>rw[bne,h]at h';cases h'
 have hadm:Acl m=0:=by simpa using h
 have hck:FF m s=0:=by simpa using hb
 obtain⟨hmr,hfit,hchk⟩:=VE hw hck
 have hm:=AeX hw hmr
 have hq:I3 m=false:=by
  unfold Acl at hadm
  rw[hmr,cond_true]at hadm
  cases c:I3 m with
  | true=>rw[c]at hadm;cases hadm
  | false=>rfl
 have hA:=Aiu hw hm hq
 have hG:Gs m s:=⟨hw,hm,Cw.1 hfit⟩
 have ha:PH m=0:=by
  unfold F2 at hm
  unfold PH
  rw[decide_eq_false (fun hn=>hn (of_decide_eq_true hm)),hq]<;>rfl
 obtain⟨_,hll,_⟩:=ZQ hG
 have hl:(Ec m s).1=(GC m s).map fun p=>Dl p.1 p.2:=by
  unfold Ec
  rw[hchk]<;>rfl
 refine⟨(Ec m s).1,TT S4 Uf hG,(GP m s (Ec m s).1,0),Um hG ha (by omega),fun h=>by simp at h,fun _=>?_⟩
 have hal:∀ i:Nat,i<(GP m s (Ec m s).1).length->_:=fun i hi=>Acj (l:=(Ec m s).1) hi
 have hpl:=hG.fit.p
 have hap:(GP m s (Ec m s).1).length<=s.Procs.length:=PF (m:=m) (s:=s) (l:=(Ec m s).1) (k:=s.Procs.length)
 generalize (Ec m s).1=l at hll hl hal hap ⊢
 generalize GP m s l=ps at hal hap ⊢
 have hat:∀ a:Nat,a<l.length->∃ p∈GC m s,Dl p.1 p.2=l.getD a default:=fun a h=>by
  have:=An (d:=(default:Nx)) h
  rw[hl]at this ⊢
  obtain⟨p,hp,e⟩:=List.mem_map.1 this
  exact⟨p,hp,e⟩
 clear hl
 refine AA Ai Aj (fun gg st=>∃ i:Nat,i<=ps.length/\gg=ps.length - i/\st=Tj m s true l ps i) (by kernel_rfl) (by kernel_rfl) ⟨_,Up.of ⟨0,Nat.zero_le _,rfl,rfl⟩⟩ ?_
 rintro gg st ⟨i,hi,rfl,rfl⟩
 have hin:(i:Int).toNat=i:=by omega
 refine AY.raw (AbF true m s true l ps i _) ⟨fun hlt=>?_,fun _=>⟨JX m,IY hw,Ap (by rw[hmr]<;>rfl)⟩⟩
 have hi':i<ps.length:=by have:=AG hlt;omega
 refine AA Ai Aj (fun gg st=>∃ a:Nat,a<=l.length/\gg=l.length - a/\st=YP m s true l ps i a) (by kernel_rfl) (by kernel_rfl) ⟨_,Up.of ⟨0,Nat.zero_le _,rfl,rfl⟩⟩ ?_
 rintro gg st ⟨a,ha',rfl,rfl⟩
 have han:(a:Int).toNat=a:=by omega
 refine AY.raw (AbE true m s true l ps i a _ _) ⟨fun hlt2=>?_,fun _=>⟨ps.length - (i+1),by omega,Up.of ⟨i+1,hi',rfl,by rw[Ak (by omega)]⟩⟩⟩
 have ha2:a<l.length:=by have:=AG hlt2;omega
 refine AA Ai Aj (fun gg st=>∃ c:Nat,c<=l.length/\gg=l.length - c/\st=Ot m s true l ps i a c) (by kernel_rfl) (by kernel_rfl) ⟨_,Up.of ⟨0,Nat.zero_le _,rfl,rfl⟩⟩ ?_
 rintro gg st ⟨c,hc,rfl,rfl⟩
 have hcn:(c:Int).toNat=c:=by omega
 refine AY.raw (AbD true m s true l ps i a c _ _ _) ⟨fun hlt3=>?_,fun _=>⟨l.length - (a+1),by omega,Up.of ⟨a+1,ha2,rfl,by rw[Ak (by omega)]⟩⟩⟩
 have hc2:c<l.length:=by have:=AG hlt3;omega
 rw[hin,han,hcn]
 obtain⟨p,hp,ep⟩:=hat a ha2
 obtain⟨q,hq',eq'⟩:=hat c hc2
 obtain⟨k,hk,ek,hsafe⟩:=hal i hi'
 rw[← ep,← eq',ek,YA,YA]
 have ix:inX (i:Int) ps.length:=⟨by omega,by omega⟩
 have ax:inX (a:Int) l.length:=⟨by omega,by omega⟩
 have cx:inX (c:Int) l.length:=⟨by omega,by omega⟩
 have next:∃ g',g'<l.length - c/\Up (fun st=>∃ c:Nat,c<=l.length/\g'=l.length - c/\st=Ot m s true l ps i a c) (Ot m s true l ps i a (IntKind.i64.wrap ((c:Int)+1))):=⟨l.length - (c+1),by omega,Up.of ⟨c+1,hc2,rfl,by rw[Ak (by omega)]⟩⟩
 refine⟨ax,cx,ix,fun _=>ix,fun _=>ix,fun _=>ax,fun _=>cx,fun _=>next,fun hcond=>?_⟩
 have hcond:p.1.Pid=k/\q.1.Pid≠k/\q.2.With≠k/\(Dl p.1 p.2).Err=0/\(Dl q.1 q.2).Err=0:=by
  have e1:(Dv p.1 p.2).Pid=p.1.Pid:=rfl
  have e2:(Dv q.1 q.2).Pid=q.1.Pid:=rfl
  have e3:(Dv q.1 q.2).With=q.2.With:=rfl
  rw[e1,e2,e3]at hcond
  clear e1 e2 e3
  by_cases c1:p.1.Pid=k
  ·by_cases c2:q.1.Pid=k
   ·simp[c2]at hcond
   ·by_cases c3:q.2.With=k
    ·simp[c3]at hcond
    ·by_cases c4:(Dl p.1 p.2).Err=0
     ·by_cases c5:(Dl q.1 q.2).Err=0
      ·exact⟨c1,c2,c3,c4,c5⟩
      ·simp[c5]at hcond
     ·simp[c4]at hcond
  ·simp[c1]at hcond
 obtain⟨c1,c2,c3,c4,c5⟩:=hcond
 have A:=Ach hG hA hk hsafe hp hq' c1 c2 c3 c4 c5
 have hv:([Aa (Dv p.1 p.2).Esc,Aa (Dv p.1 p.2).Way,Aa (-1),Aa (-1),Aa (-1),Aa 0]:List VV)=Bu p.2:=by
  show[Aa p.2.Esc,Aa p.2.Way,Aa (-1),Aa (-1),Aa (-1),Aa 0]=[Aa p.2.Esc,Aa p.2.Way,Aa p.2.With,Aa p.2.WithEsc,Aa p.2.WithWay,Aa p.2.Err]
  rw[A.vw.1,A.vw.2.1,A.vw.2.2.1,A.vw.2.2.2]
 have hw':([Aa (Dv q.1 q.2).Esc,Aa (Dv q.1 q.2).Way,Aa (Dv q.1 q.2).With,Aa (Dv q.1 q.2).WithEsc,Aa (Dv q.1 q.2).WithWay,Aa 0]:List VV)=Bu q.2:=by
  show[Aa q.2.Esc,Aa q.2.Way,Aa q.2.With,Aa q.2.WithEsc,Aa q.2.WithWay,Aa 0]=[Aa q.2.Esc,Aa q.2.Way,Aa q.2.With,Aa q.2.WithEsc,Aa q.2.WithWay,Aa q.2.Err]
  rw[A.we]
 rw[hv,hw',show(Dv q.1 q.2).Pid=q.1.Pid from rfl]
 obtain⟨_,i0,i1⟩:=A.i0.gsI
 obtain⟨_,j0,j1⟩:=A.j0.gsI
 obtain⟨gP,_,jP⟩:=A.j1.gsI
 obtain⟨gQ,_,iQ⟩:=A.i1.gsI
 have h1:=Q2 gQ ⟨i0,iQ⟩ p.2
 have h2:=Q2 gP ⟨j0,jP⟩ q.2
 rw[Va A.v1]at h1
 rw[Va A.w1]at h2
 have hfin:=(Si (Pf A.j1 A.w1 A.wz1)).fit
 have hsame:=WC hfin
 refine⟨ix,(BH (goP (AD m s k) p.2).1,(goP (AD m s k) p.2).2.2),Ia hG ⟨i0,i1⟩ A.v0,(BH (goP (AD m s q.1.Pid) q.2).1,(goP (AD m s q.1.Pid) q.2).2.2),Ia hG ⟨j0,j1⟩ A.w0,ix,true,h1,true,h2,⟨fun h=>absurd h (by decide),fun _ =>
  ⟨(BH (goP (AD m (BH (goP (AD m s k) p.2).1) q.1.Pid) q.2).1,(goP (AD m (BH (goP (AD m s k) p.2).1) q.1.Pid) q.2).2.2),Ia gP ⟨j0,jP⟩ A.w1,ix,(BH (goP (AD m (BH (goP (AD m s q.1.Pid) q.2).1) k) p.2).1,(goP (AD m (BH (goP (AD m s q.1.Pid) q.2).1) k) p.2).2.2),Ia gQ ⟨i0,iQ⟩ A.v1,true,?_,⟨fun h=>?_,fun _=>next⟩⟩⟩⟩
 ·show Al _ _ [] [.agg (Ae (BH (goP (AD m (BH (goP (AD m s k) p.2).1) q.1.Pid) q.2).1)),.agg (Ae (BH (goP (AD m (BH (goP (AD m s q.1.Pid) q.2).1) k) p.2).1))] [] _
  rw[← A.same]
  exact hsame
 ·exfalso
  have e1:=A.wz1
  have e2:=A.vz1
  revert h
  show(bif (goP (AD m (BH (goP (AD m s k) p.2).1) q.1.Pid) q.2).2.2 != (goP (AD m (BH (goP (AD m s q.1.Pid) q.2).1) k) p.2).2.2 then true else !true)=true->False
  rw[e1,e2]
  simp
end
end Go.Proofs.YtlhajmkjfcbhnaaGreat
namespace Go.Proofs.YtlhajmkjfcbhnaaGreat
open Go.ChangeShapes Go.WideShapes Go.ChangeAt Go.RowKit
theorem own : ownKnob Tryz.prog.godebug=none:=by kernel_rfl
theorem AgW : laidOutB Tryz.prog=true:=by kernel_rfl
theorem PP {H:Type}{enc:TypeId × Value->H}{P:Program}(hl:laidOutB P=true){W W':World}(hb:Below W.heap.size W W') :
  ∀ (ts:List TypeId) (vs:List Value) (ds:List (DataW H)) (ps:List MemPlace),ts.all (fun t=>P.readableRec t&&decide (t<P.types.size))=true ->
   DataW.TrodAll enc P W 0 (fun _=>true) true ts vs ds ps->DataW.TrodAll enc P W' 0 (fun b=>decide (b<W.heap.size)) true ts vs ds ps:=by
 intro ts
 induction ts with
 | nil =>
  intro vs ds ps _ h
  obtain⟨rfl,rfl,rfl⟩:=trodAll_nil h
  exact trodAll_mk0
 | cons t ts ih =>
  intro vs ds ps ht h
  rw[List.all_cons,Bool.and_eq_true,Bool.and_eq_true]at ht
  obtain⟨v,vs',d,ds',p,q,rfl,rfl,rfl,h1,h2⟩:=trodAll_cons h
  have lt1:∀ x∈p,x.block<W.heap.size:=by obtain⟨m,hm⟩:=h1;exact DataW.trod_lt m _ _ _ hm
  exact trodAll_cons_mk (Below.trod hl ht.1.1 (of_decide_eq_true ht.1.2) h1 hb lt1) (ih vs' ds' q ht.2 h2)
theorem Ae7 {H:Type}{enc:TypeId × Value->H}{P:Program}{f:Func}{s:ChangeSpec}{tb:TypeId}(hl:laidOutB P=true)
  (hp:f.params.toList.all (fun t=>P.readableRec t&&decide (t<P.types.size))=true) (hr:f.resultTypes=#[tb]) (htb:P.underlying tb=some .bool) (hvars:s.vars=[])
  {W W':World} {args:Array Value} {ds gs:List (DataW H)} {before:List MemPlace}
  (hW:DataW.Whole enc P f.params.toList s.vars false W args.toList ds gs before)
  (hfn:∀ ds,ds.length=f.params.toList.length->s.fn H ds={ results:=[.lit (.bool true)],args:=ds }) (hb:Below W.heap.size W W') :
  s.post enc P f false true false false W args (.bool true) W':=by
 have hW':=hW
 obtain⟨p,q,hA,hV,rfl,hfz,hnd⟩:=hW
 rw[hvars]at hV
 obtain⟨rfl,rfl⟩:=trodVars_none hV
 have hlen:∀ (ts:List TypeId) (vs:List Value) (ds:List (DataW H)) (ps:List MemPlace),DataW.TrodAll enc P W 0 (fun _=>true) true ts vs ds ps->ds.length=ts.length:=by
  intro ts
  induction ts with
  | nil=>intro vs ds ps h;obtain⟨_,rfl,_⟩:=trodAll_nil h;rfl
  | cons t ts ih=>intro vs ds ps h;obtain⟨v,vs',d,ds',p,q,rfl,rfl,rfl,_,h2⟩:=trodAll_cons h;simp[ih _ _ _ h2]
 have hf:=hfn (ds++[]) (by simpa using hlen _ _ _ _ hA)
 refine⟨ds,[],_,[],p,[],hW',?_,?_,?_,hb.frame _,fun h=>by cases h⟩
 ·rw[hf,hr];exact trodAll_mk1 (shut_bool htb _)
 ·rw[hf,List.append_nil];exact PP hl hb _ _ _ _ hp hA
 ·rw[hf,hvars];rfl
end Go.Proofs.YtlhajmkjfcbhnaaGreat
