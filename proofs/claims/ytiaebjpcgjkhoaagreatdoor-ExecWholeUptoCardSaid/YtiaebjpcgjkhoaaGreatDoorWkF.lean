/-
  Texts, joined: Fm1, Fm2, WhPr, WhW3, WhL, LawKit, WhLaid.
-/
import Derived.Test.YtiaebjpcgjkhoaaGreatDoorWkE
import Derived.BigGuard
import Derived.Laws.Bits64b
import Derived.Lib.LaidTab
import Derived.Test.YtiaebjpcgjkhoaaGreatDoorRows
import Derived.WalkKit
import Derived.ProofKit
import Derived.OpenShut
import Derived.Test.YtiaebjpcgjkhoaaGreatDoorCards
import Derived.Test.YtiaebjpcgjkhoaaGreatDoorTie
import Derived.Deep.DeepHandedRow
import Derived.Stop.LaidErr
namespace Go.Proofs.YtiaebjpcgjkhoaaGreatDoor
open Go.RowKit Go.Lib Go.Sort
theorem UO : ∀ (g u:Nat),u<10 ^ (g+1)->Kh 10 (g+1) u=Lib.decDigits u
 | g,u,h=>by
  rw [Lib.decDigits]
  unfold Kh
  by_cases h10:u<10
  ·rw [if_pos h10,dif_pos h10];unfold FE;rw [if_pos h10]
  ·rw [if_neg h10,dif_neg h10]
   match g,h with
   | 0,h=>omega
   | g+1,h =>
    rw [UO g (u / 10) (by rw [Nat.pow_succ] at h;omega)]
    unfold FE
    rw [if_pos (by omega)]
set_option maxHeartbeats 6400000 in
set_option maxRecDepth 100000 in
theorem Adu (u:Nat) (w:World) (hu:u<4294967296) (htab:Lib.TabIs Tryz.prog w "internal/strconv.uint64pow10" .u64 Lib.pow10Tab) :
  Calls Tryz.prog 89 #[.int .u64 u,.int .i64 10] w fun e w'=>e=.returned (.string ⟨(Lib.decDigits u).toArray⟩)/\Below w.heap.size w w':=by
 by_cases hs:u<100
 ·go_enter Tryz.func89,Tryz.ntmps89
  go_wp2_with (go_at_call 123;refine (Tryz.internal_strconv_small u hs _).mono ?_;rintro e w' ⟨rfl,rfl⟩)
  go_ret
  exact ⟨rfl,Below.refl _ _⟩
 ·have hu1:1<=u:=by omega
  have hu64:u<18446744073709551616:=by omega
  have hnd20:Lib.nDigits u<=20:=by have:=Lib.numDigits_eq u hu1 hu64;split at this<;>omega
  have hal:Tryz.prog.arrayLen 203=24:=by kernel_rfl
  have hsl:∀ W,(Instr.sliceAt 203 (.pointer (some ⟨w.heap.size,0,none⟩)) none (some (.int .i64 (Lib.nDigits u:Int))) none).run Tryz.prog W=.ok (.slice (some ⟨w.heap.size,0,none⟩) (Lib.nDigits u) 24) W:=fun W=>by
   rw [run_sliceAt_array_h W 203 ⟨w.heap.size,0,none⟩ (by kernel_rfl) .i64 (Lib.nDigits u:Int) (by omega) (by rw [hal];omega)]
   go_simp
  have hH0:=Lib.holds_zero0 w 203 (Lib.nDigits u) (by omega)
  have hfmt:=Tryz.internal_strconv_formatBase10 w.heap.size 0 24 u (Array.replicate (Lib.nDigits u) 0) (w.alloc (.cells Lib.zeros24 203)) hH0 (by rw [Array.size_replicate];exact Lib.lt_pow_nDigits u) hu64 (by rw [Array.size_replicate];omega)
  rw [Array.size_replicate] at hfmt
  have HH0:=Lib.hid hH0
  clear hH0 hal
  go_enter Tryz.func89,Tryz.ntmps89
  go_wp2_with (go_at_call 124;refine (Tryz.internal_strconv_numDigits u hu1 hu64 _ (Lib.tabIs_alloc htab _)).mono ?_;rintro e w' ⟨rfl,rfl⟩)
  go_at_call 125
  refine hfmt.mono ?_
  rintro e w' ⟨rfl,k,v',dk,rfl,hF⟩
  have hcv:(convert 127 9 (.slice (some ⟨w.heap.size,0,none⟩) (Lib.nDigits u) 24)).run Tryz.prog ((putRow (fun (b:UInt8)=>Value.int .u8 (b.toNat:Int)) (w.alloc (.cells Lib.zeros24 203)) w.heap.size 0 dk).drewN k)=.ok (.string ⟨(Lib.decDigits u).toArray⟩) ((putRow (fun (b:UInt8)=>Value.int .u8 (b.toNat:Int)) (w.alloc (.cells Lib.zeros24 203)) w.heap.size 0 dk).drewN k):=by
   have h:=run_convert_bytes_back (P:=Tryz.prog) ((putRow (fun (b:UInt8)=>Value.int .u8 (b.toNat:Int)) (w.alloc (.cells Lib.zeros24 203)) w.heap.size 0 dk).drewN k) 127 9 5 ⟨w.heap.size,0,none⟩ 24 (Lib.decDigits u) Tryz.underlying127 Tryz.underlying5 Tryz.underlying9 (fun j hj=>by
    rw [Lib.row_is_numeral hF j hj,Lib.add_plain,World.cell?_drewN]
    exact cell?_putRow (fun (b:UInt8)=>Value.int .u8 (b.toNat:Int)) _ w.heap.size 0 _ dk HH0.out (by rw [hF.size,Array.size_replicate]) j (by rw [hF.size];rw [Lib.decDigits_length] at hj;exact hj))
   rw [Lib.decDigits_length] at h
   exact h
  go_wp2
  go_ret
  obtain ⟨os,eo⟩:=Lib.fin_at w (.cells Lib.zeros24 203) dk k 0
  refine ⟨rfl,?_⟩
  rw [eo]
  exact Lib.below_grow _ w (Nat.le_refl _) k os
theorem Agz : P6 10:=fun u W hu hL=>by
 have h:=Adu u W hu hL.tab
 go_enter Tryz.func57,Tryz.ntmps57
 go_wp2_with fail
 refine h.mono ?_
 rintro e w' ⟨rfl,hb⟩
 go_wp2
 go_ret
 have e:mk (Hi 10 u)=⟨(Lib.decDigits u).toArray⟩:=by unfold Hi mk;rw [UO 63 u (by omega)]
 rw [e]
 exact ⟨rfl,hb⟩
end Go.Proofs.YtiaebjpcgjkhoaaGreatDoor
namespace Go.Proofs.YtiaebjpcgjkhoaaGreatDoor
open Go.RowKit
theorem Cq.lt {w:World} (h:Cq w):∀ k,k∈Fy->k<w.heap.size:=fun k hk=>by
 have lt:∀ {g i:Nat} {v:Value},w.cell? ⟨g,i,none⟩=some v->g<w.heap.size:=fun {g i v} h=>by
  rcases Nat.lt_or_ge g w.heap.size with h' | h'
  ·exact h'
  ·simp [World.cell?,Array.getElem?_eq_none h'] at h
 simp only [Fy,List.mem_cons,List.mem_nil_iff,or_false] at hk
 rcases hk with rfl | rfl
 ·exact lt (h.tab.cell Sg 0 (by decide))
 ·exact lt (h.db.cell QQ 0 (by decide))
theorem Cq.alloc {w:World} (h:Cq w) (o:Obj):Cq (w.alloc o):=h.congr fun k hk=>Below.heap_alloc _ _ _ (h.lt k hk)
theorem O3 (x:Int) (w:World) (key:bits BinOp.and IntKind.i64 x (wrap64 (x - 1))=0) :
  Calls Tryz.prog 153 #[.int .i64 x] w fun e w'=>e=.returned (.bool true)/\w'=w:=by
 go_enter Tryz.func153,Tryz.ntmps153
 go_wp2
 go_ret
 exact ⟨rfl,rfl⟩
set_option maxHeartbeats 1000000 in
theorem On (x k idx:Nat) (w:World) (hx0:((x:Int)==0)=false)
  (key:IntKind.u64.wrap (bits BinOp.and IntKind.u64 (x:Int) (IntKind.u64.wrap (-(x:Int)))*285870213051353865) / 288230376151711744=(idx:Int))
  (hi:idx<64) (hk:k<64) (hcell:w.cell? ⟨2,idx,none⟩=some (.int .u8 k)) :
  Calls Tryz.prog 170 #[.int .u64 x] w fun e w'=>e=.returned (.int .i64 k)/\w'=w:=by
 go_enter Tryz.func170,Tryz.ntmps170
 go_wp2_with (simp only [key])
 go_ret
 exact ⟨rfl,rfl⟩
theorem S8 (x k:Nat) (w:World) (h:Calls Tryz.prog 170 #[.int .u64 x] w fun e w'=>e=.returned (.int .i64 k)/\w'=w) :
  Calls Tryz.prog 154 #[.int .u64 x] w fun e w'=>e=.returned (.int .i64 k)/\w'=w:=by
 go_enter Tryz.func154,Tryz.ntmps154
 go_wp2_with fail
 refine h.mono ?_
 rintro e w' ⟨rfl,rfl⟩
 go_wp2
 go_ret
 exact ⟨rfl,rfl⟩
theorem Ie {cur:Array Value} {ik:Nat} {L:By} {d:UInt8} (hcs:cur.size=65) (hik:ik+L.length=65) (hcur:∀ j,j<L.length->cur[ik+j]?=some (.int .u8 ((L.getD j 0).toNat:Int))) (h1:1<=ik) :
  ∀ j,j<(d::L).length->(cur.setIfInBounds (ik - 1) (.int .u8 (d.toNat:Int)))[ik - 1+j]?=some (.int .u8 (((d::L).getD j 0).toNat:Int)):=fun j hj=>by
 match j with
 | 0=>rw [Nat.add_zero,Array.getElem?_setIfInBounds_self_of_lt (by omega)];rfl
 | j+1 =>
  rw [Array.getElem?_setIfInBounds_ne (by omega),show ik - 1+(j+1)=ik+j by omega,hcur j (by simpa using hj)]
  rfl
theorem L5 (n:Nat) (h:n<16) (h':n<(⟨#[48,49,50,51,52,53,54,55,56,57,97,98,99,100,101,102,103,104,105,106,107,108,109,110,111,112,113,114,115,116,117,118,119,120,121,122]⟩:ByteArray).size):(⟨#[48,49,50,51,52,53,54,55,56,57,97,98,99,100,101,102,103,104,105,106,107,108,109,110,111,112,113,114,115,116,117,118,119,120,121,122]⟩:ByteArray)[n]=FE n:=by
 match n,h with
 | 0,_=>rfl
 | 1,_=>rfl
 | 2,_=>rfl
 | 3,_=>rfl
 | 4,_=>rfl
 | 5,_=>rfl
 | 6,_=>rfl
 | 7,_=>rfl
 | 8,_=>rfl
 | 9,_=>rfl
 | 10,_=>rfl
 | 11,_=>rfl
 | 12,_=>rfl
 | 13,_=>rfl
 | 14,_=>rfl
 | 15,_=>rfl
 | n+16,h=>exact absurd h (by omega)
theorem AeI (w:World):Calls Tryz.prog 153 #[.int .i64 16] w fun e w'=>e=.returned (.bool true)/\w'=w:=O3 16 w (by kernel_rfl)
theorem AgV (w:World) (hL:Cq w):Calls Tryz.prog 154 #[.int .u64 16] w fun e w'=>e=.returned (.int .i64 4)/\w'=w :=
 S8 16 4 w (On 16 4 15 w rfl (by kernel_rfl) (by decide) (by decide) (hL.db.cell QQ 15 (by decide)))
theorem AgM (n:Nat) (h:n<1099511627776):bits BinOp.and IntKind.u64 (n:Int) 15=((n % 16:Nat):Int):=by
 have:=bits_and_u64_nat n 15 (by omega) (by omega)
 rw [show ((15:Nat):Int)=15 from rfl] at this
 rw [this,show (15:Nat)=2 ^ 4 - 1 from rfl,Nat.and_two_pow_sub_one_eq_mod]
set_option maxHeartbeats 4000000 in
set_option maxRecDepth 100000 in
theorem Afd (u:Nat) (w:World) (hu:u<4294967296) (hL:Cq w) :
  Calls Tryz.prog 126 #[.slice none 0 0,.int .u64 u,.int .i64 16,.bool false,.bool false] w fun e w'=>e=.returned (.tuple #[.slice none 0 0,.string (mk (Hi 16 u))])/\Below w.heap.size w w':=by
 go_enter Tryz.func126,Tryz.ntmps126
 go_wp2_with (first | (go_at_call 153;refine (AeI _).mono ?_;rintro e w1 ⟨rfl,rfl⟩) | (go_at_call 154;refine (AgV _ (hL.alloc _)).mono ?_;rintro e w1 ⟨rfl,rfl⟩))
 have hZ:(w.alloc (.cells Tryz.zeroCells226 226)).heap[w.heap.size]?=some (.cells Tryz.zeroCells226 226 (0,0)):=heap_alloc_new _ _
 have hB0:Below w.heap.size w (w.alloc (.cells Tryz.zeroCells226 226)):=(Below.refl _ w).alloc (Nat.le_refl _) _
 generalize w.alloc (.cells Tryz.zeroCells226 226)=wa at *
 go_loopw [1,13] (fun uv iv wr=>∃ (n ik:Nat) (L:By) (cur:Array Value),uv=.int .u64 n/\iv=.int .i64 ik/\ik+L.length=65/\n<16 ^ (8 - L.length)/\L.length<=8/\Hi 16 u=Kh 16 (64 - L.length) n++L/\wr.heap[w.heap.size]?=some (.cells cur 226 (0,0))/\cur.size=65/\(∀ j,j<L.length->cur[ik+j]?=some (.int .u8 ((L.getD j 0).toNat:Int)))/\Below w.heap.size w wr) (fun uv _ _=>(intOf uv).toNat)
 case atStart=>exact ⟨u,65,[],_,rfl,rfl,rfl,by show u<16 ^ 8;omega,Nat.zero_le _,by rw [List.append_nil];rfl,hZ,by kernel_rfl,fun j hj=>by simp at hj,hB0⟩
 case round =>
  obtain ⟨n,ik,L,cur,rfl,rfl,hik,hn,hL',hEq,hblk,hcs,hcur,hbel⟩:=hrel
  have hp1:16 ^ (8 - L.length)<=16 ^ 8:=Nat.pow_le_pow_right (by decide) (Nat.sub_le _ _)
  have hp2:16 ^ 8<=8589934592:=by decide
  have hn32:n<1099511627776:=Nat.lt_of_lt_of_le hn (Nat.le_trans hp1 (Nat.le_trans hp2 (by decide)))
  clear hp1 hp2
  have hand:=AgM n hn32
  have hlt:ik - 1<cur.size:=by omega
  have hc:wr.cell? ⟨w.heap.size,ik - 1,none⟩=some (cur.getD (ik - 1) undef):=Ah hblk (by simp [Array.getD,hlt])
  clear hlt
  have hf:wr.frozen? ⟨w.heap.size,ik - 1,none⟩=false:=Aw hblk
  by_cases hge:16<=n
  ·have hgi:(16:Int)<=(n:Int):=by omega
   have hik2:((ik - 1:Nat):Int)<65:=by omega
   have hmod:n % 16<16:=Nat.mod_lt _ (by omega)
   go_wp2
   rw [L5 (n % 16) (by omega)]
   have hl8:L.length<8:=by
    rcases Nat.lt_or_ge L.length 8 with h | h
    ·exact h
    ·rw [show 8 - L.length=0 by omega] at hn;simp at hn;omega
   refine ⟨⟨n / 16,ik - 1,FE (n % 16)::L,_,congrArg _ (by omega),congrArg _ (by omega),by simp;omega,?_,by simp;omega,?_,A3 hblk _,by simp [hcs],?_,hbel.setCell (Nat.le_refl _) _⟩,by simp [intOf];omega⟩
   ·rw [show 8 - L.length=8 - (L.length+1)+1 by omega,Nat.pow_succ] at hn
    rw [List.length_cons]
    exact Nat.div_lt_of_lt_mul (by omega)
   ·rw [hEq,List.length_cons,show 64 - L.length=64 - (L.length+1)+1 by omega]
    show (if n<16 then _ else _)++L=_
    rw [if_neg (by omega),List.append_assoc]
    rfl
   ·exact Ie hcs hik hcur (by omega)
  ·have hgi:(n:Int)<16:=by omega
   have hik2:((ik - 1:Nat):Int)<65:=by omega
   have hal:Tryz.prog.arrayLen 226=65:=by kernel_rfl
   have hsl:∀ W,(Instr.sliceAt 226 (.pointer (some ⟨w.heap.size,0,none⟩)) (some (.int .i64 ((ik:Int) - 1))) none none).run Tryz.prog W=.ok (.slice (some ⟨w.heap.size,ik - 1,none⟩) (L.length+1) (L.length+1)) W:=fun W=>by
    rw [run_sliceAt_array_l W 226 ⟨w.heap.size,0,none⟩ (by kernel_rfl) .i64 _ (by omega) (by rw [hal];omega)]
    go_simp
    refine ⟨?_,?_⟩<;>omega
   have hcells:=Ie (d:=FE n) hcs hik hcur (by omega)
   have hblk':(wr.setCell ⟨w.heap.size,ik - 1,none⟩ (.int .u8 ((FE n).toNat:Int))).heap[w.heap.size]?=_:=A3 hblk _
   have hcv:(convert 127 9 (.slice (some ⟨w.heap.size,ik - 1,none⟩) (L.length+1) (L.length+1))).run Tryz.prog (wr.setCell ⟨w.heap.size,ik - 1,none⟩ (.int .u8 ((FE n).toNat:Int)))=.ok (.string ⟨(FE n::L).toArray⟩) (wr.setCell ⟨w.heap.size,ik - 1,none⟩ (.int .u8 ((FE n).toNat:Int))) :=
    run_convert_bytes_back (P:=Tryz.prog) _ 127 9 5 ⟨w.heap.size,ik - 1,none⟩ (L.length+1) (FE n::L) Tryz.underlying127 Tryz.underlying5 Tryz.underlying9 fun j hj=>by
     rw [Addr.add_lit,Ah hblk' (hcells j hj),show (FE n::L).getD j 0=(FE n::L)[j] from by unfold List.getD;rw [List.getElem?_eq_getElem hj];rfl]
   have hdig:=L5 n (by omega)
   have e:Kh 16 (64 - L.length) n=[FE n]:=by
    rw [show 64 - L.length=63 - L.length+1 by omega]
    show (if n<16 then _ else _)=_
    rw [if_pos (by omega)]
   rw [e] at hEq
   go_wp2
   go_ret2
   exact ⟨rfl,hbel.setCell (Nat.le_refl _) _⟩
theorem Abc (u:Nat) (w:World) (hu:u<4294967296) (hL:Cq w) :
  Calls Tryz.prog 89 #[.int .u64 u,.int .i64 16] w fun e w'=>e=.returned (.string (mk (Hi 16 u)))/\Below w.heap.size w w':=by
 have h:=Afd u w hu hL
 go_enter Tryz.func89,Tryz.ntmps89
 go_wp2_with fail
 refine h.mono ?_
 rintro e w' ⟨rfl,hb⟩
 go_wp2
 go_ret
 exact ⟨rfl,hb⟩
theorem Agy : P6 16:=fun u W hu hL=>by
 have h:=Abc u W hu hL
 go_enter Tryz.func57,Tryz.ntmps57
 go_wp2_with fail
 refine h.mono ?_
 rintro e w' ⟨rfl,hb⟩
 go_wp2
 go_ret
 exact ⟨rfl,hb⟩
theorem Agm (w:World):Calls Tryz.prog 153 #[.int .i64 8] w fun e w'=>e=.returned (.bool true)/\w'=w:=O3 8 w (by kernel_rfl)
theorem Ahu (w:World) (hL:Cq w):Calls Tryz.prog 154 #[.int .u64 8] w fun e w'=>e=.returned (.int .i64 3)/\w'=w :=
 S8 8 3 w (On 8 3 7 w rfl (by kernel_rfl) (by decide) (by decide) (hL.db.cell QQ 7 (by decide)))
theorem Ahq (n:Nat) (h:n<1099511627776):bits BinOp.and IntKind.u64 (n:Int) 7=((n % 8:Nat):Int):=by
 have:=bits_and_u64_nat n 7 (by omega) (by omega)
 rw [show ((7:Nat):Int)=7 from rfl] at this
 rw [this,show (7:Nat)=2 ^ 3 - 1 from rfl,Nat.and_two_pow_sub_one_eq_mod]
set_option maxHeartbeats 4000000 in
set_option maxRecDepth 100000 in
theorem AgJ (u:Nat) (w:World) (hu:u<4294967296) (hL:Cq w) :
  Calls Tryz.prog 126 #[.slice none 0 0,.int .u64 u,.int .i64 8,.bool false,.bool false] w fun e w'=>e=.returned (.tuple #[.slice none 0 0,.string (mk (Hi 8 u))])/\Below w.heap.size w w':=by
 go_enter Tryz.func126,Tryz.ntmps126
 go_wp2_with (first | (go_at_call 153;refine (Agm _).mono ?_;rintro e w1 ⟨rfl,rfl⟩) | (go_at_call 154;refine (Ahu _ (hL.alloc _)).mono ?_;rintro e w1 ⟨rfl,rfl⟩))
 have hZ:(w.alloc (.cells Tryz.zeroCells226 226)).heap[w.heap.size]?=some (.cells Tryz.zeroCells226 226 (0,0)):=heap_alloc_new _ _
 have hB0:Below w.heap.size w (w.alloc (.cells Tryz.zeroCells226 226)):=(Below.refl _ w).alloc (Nat.le_refl _) _
 generalize w.alloc (.cells Tryz.zeroCells226 226)=wa at *
 go_loopw [1,13] (fun uv iv wr=>∃ (n ik:Nat) (L:By) (cur:Array Value),uv=.int .u64 n/\iv=.int .i64 ik/\ik+L.length=65/\n<8 ^ (11 - L.length)/\L.length<=11/\Hi 8 u=Kh 8 (64 - L.length) n++L/\wr.heap[w.heap.size]?=some (.cells cur 226 (0,0))/\cur.size=65/\(∀ j,j<L.length->cur[ik+j]?=some (.int .u8 ((L.getD j 0).toNat:Int)))/\Below w.heap.size w wr) (fun uv _ _=>(intOf uv).toNat)
 case atStart=>exact ⟨u,65,[],_,rfl,rfl,rfl,by show u<8 ^ 11;omega,Nat.zero_le _,by rw [List.append_nil];rfl,hZ,by kernel_rfl,fun j hj=>by simp at hj,hB0⟩
 case round =>
  obtain ⟨n,ik,L,cur,rfl,rfl,hik,hn,hL',hEq,hblk,hcs,hcur,hbel⟩:=hrel
  have hp1:8 ^ (11 - L.length)<=8 ^ 11:=Nat.pow_le_pow_right (by decide) (Nat.sub_le _ _)
  have hp2:8 ^ 11<=8589934592:=by decide
  have hn32:n<1099511627776:=Nat.lt_of_lt_of_le hn (Nat.le_trans hp1 (Nat.le_trans hp2 (by decide)))
  clear hp1 hp2
  have hand:=Ahq n hn32
  have hlt:ik - 1<cur.size:=by omega
  have hc:wr.cell? ⟨w.heap.size,ik - 1,none⟩=some (cur.getD (ik - 1) undef):=Ah hblk (by simp [Array.getD,hlt])
  clear hlt
  have hf:wr.frozen? ⟨w.heap.size,ik - 1,none⟩=false:=Aw hblk
  by_cases hge:8<=n
  ·have hgi:(8:Int)<=(n:Int):=by omega
   have hik2:((ik - 1:Nat):Int)<65:=by omega
   have hmod:n % 8<8:=Nat.mod_lt _ (by omega)
   go_wp2
   rw [L5 (n % 8) (by omega)]
   have hl8:L.length<11:=by
    rcases Nat.lt_or_ge L.length 11 with h | h
    ·exact h
    ·rw [show 11 - L.length=0 by omega] at hn;simp at hn;omega
   refine ⟨⟨n / 8,ik - 1,FE (n % 8)::L,_,congrArg _ (by omega),congrArg _ (by omega),by simp;omega,?_,by simp;omega,?_,A3 hblk _,by simp [hcs],?_,hbel.setCell (Nat.le_refl _) _⟩,by simp [intOf];omega⟩
   ·rw [show 11 - L.length=11 - (L.length+1)+1 by omega,Nat.pow_succ] at hn
    rw [List.length_cons]
    exact Nat.div_lt_of_lt_mul (by omega)
   ·rw [hEq,List.length_cons,show 64 - L.length=64 - (L.length+1)+1 by omega]
    show (if n<8 then _ else _)++L=_
    rw [if_neg (by omega),List.append_assoc]
    rfl
   ·exact Ie hcs hik hcur (by omega)
  ·have hgi:(n:Int)<8:=by omega
   have hik2:((ik - 1:Nat):Int)<65:=by omega
   have hal:Tryz.prog.arrayLen 226=65:=by kernel_rfl
   have hsl:∀ W,(Instr.sliceAt 226 (.pointer (some ⟨w.heap.size,0,none⟩)) (some (.int .i64 ((ik:Int) - 1))) none none).run Tryz.prog W=.ok (.slice (some ⟨w.heap.size,ik - 1,none⟩) (L.length+1) (L.length+1)) W:=fun W=>by
    rw [run_sliceAt_array_l W 226 ⟨w.heap.size,0,none⟩ (by kernel_rfl) .i64 _ (by omega) (by rw [hal];omega)]
    go_simp
    refine ⟨?_,?_⟩<;>omega
   have hcells:=Ie (d:=FE n) hcs hik hcur (by omega)
   have hblk':(wr.setCell ⟨w.heap.size,ik - 1,none⟩ (.int .u8 ((FE n).toNat:Int))).heap[w.heap.size]?=_:=A3 hblk _
   have hcv:(convert 127 9 (.slice (some ⟨w.heap.size,ik - 1,none⟩) (L.length+1) (L.length+1))).run Tryz.prog (wr.setCell ⟨w.heap.size,ik - 1,none⟩ (.int .u8 ((FE n).toNat:Int)))=.ok (.string ⟨(FE n::L).toArray⟩) (wr.setCell ⟨w.heap.size,ik - 1,none⟩ (.int .u8 ((FE n).toNat:Int))) :=
    run_convert_bytes_back (P:=Tryz.prog) _ 127 9 5 ⟨w.heap.size,ik - 1,none⟩ (L.length+1) (FE n::L) Tryz.underlying127 Tryz.underlying5 Tryz.underlying9 fun j hj=>by
     rw [Addr.add_lit,Ah hblk' (hcells j hj),show (FE n::L).getD j 0=(FE n::L)[j] from by unfold List.getD;rw [List.getElem?_eq_getElem hj];rfl]
   have hdig:=L5 n (by omega)
   have e:Kh 8 (64 - L.length) n=[FE n]:=by
    rw [show 64 - L.length=63 - L.length+1 by omega]
    show (if n<8 then _ else _)=_
    rw [if_pos (by omega)]
   rw [e] at hEq
   go_wp2
   go_ret2
   exact ⟨rfl,hbel.setCell (Nat.le_refl _) _⟩
theorem Adt (u:Nat) (w:World) (hu:u<4294967296) (hL:Cq w) :
  Calls Tryz.prog 89 #[.int .u64 u,.int .i64 8] w fun e w'=>e=.returned (.string (mk (Hi 8 u)))/\Below w.heap.size w w':=by
 have h:=AgJ u w hu hL
 go_enter Tryz.func89,Tryz.ntmps89
 go_wp2_with fail
 refine h.mono ?_
 rintro e w' ⟨rfl,hb⟩
 go_wp2
 go_ret
 exact ⟨rfl,hb⟩
theorem Aho : P6 8:=fun u W hu hL=>by
 have h:=Adt u W hu hL
 go_enter Tryz.func57,Tryz.ntmps57
 go_wp2_with fail
 refine h.mono ?_
 rintro e w' ⟨rfl,hb⟩
 go_wp2
 go_ret
 exact ⟨rfl,hb⟩
end Go.Proofs.YtiaebjpcgjkhoaaGreatDoor
namespace Go.Proofs.YtiaebjpcgjkhoaaGreatDoor
open Go.RowKit
theorem WO {t:ByteArray} {l:List Int} {fz:Bool} (ht:t.size<=1048576) (hI:∀ n∈l,B33 n):Ai Tryz.prog 41 [] [BV t,Ad fz l] [] (BV (CV t l)):=by
 refine Ai.hand ⟨_,Tryz.func41,rfl,by kernel_rfl⟩ fun w E vs hA hL hB _ hs0=>?_
 obtain ⟨u1,us1,rfl,v1,hs0⟩:=hs0.cons_inv
 obtain ⟨u2,us2,rfl,v2,hs0⟩:=hs0.cons_inv
 obtain rfl:=hs0.nil_inv
 obtain rfl:=v1.sc_inv
 obtain ⟨ao,cap,rfl,h1,h2,h3⟩:=Afh v2
 refine (TY hL hB h1 h2 h3 (fun n hn=>by have:=hI n hn;unfold B33 at this;unfold I64;omega) (by omega) fun _=>⟨Agz,Agy,Aho⟩).mono ?_
 rintro r w' ⟨rfl,hb⟩
 exact ⟨_,rfl,.sc,hb⟩
theorem U6 {e:D.Env} (hw:Ay e.M):∀ (l out:List Int),(∀ x∈out,B33 x)->∀ x∈(Iw (Ba e) out l).1,B33 x
 | [],out,h=>h
 | a::l,out,h=>by
  have hq:Iw (Ba e) out (a::l)=bif decide ((Ba e a).2≠0) then ([],(Ba e a).2) else Iw (Ba e) (out++[(Ba e a).1]) l:=rfl
  rw [hq]
  cases c:decide ((Ba e a).2≠0) with
  | true=>intro x hx;cases hx
  | false =>
   refine U6 hw l _ fun x hx=>?_
   rcases List.mem_append.1 hx with hx | hx
   ·exact h x hx
   ·obtain rfl:=List.mem_singleton.1 hx
    exact (Abj hw a (by simpa using c)).1
theorem Ad5 {e:D.Env} {l:List Int} (hw:Ay e.M) {x:Int} (hx:x∈(B8 e l).1):B33 x:=U6 hw l [] (fun x hx=>by cases hx) x hx
end Go.Proofs.YtiaebjpcgjkhoaaGreatDoor
namespace Go.Proofs.YtiaebjpcgjkhoaaGreatDoor
open Go.RowKit
section
variable {e : D.Env} {w:Wy}
theorem Vs (h:CH e):Ai Tryz.prog 18 [] [.agg (Af e)] [] (.agg (An (Abo e))):=by
 have hp:=h.ok.pid
 have h0:=h.p0
 have hl:(e.S.Procs.take e.Pid.toNat).length=e.Pid.toNat:=by simp;omega
 have hrow:VV.le (.sl true e.Pid.toNat 4 fun i=>As (e.S.Procs.getD i default)) (AW true (e.S.Procs.take e.Pid.toNat)):=by
  show VV.le _ (.sl true (e.S.Procs.take e.Pid.toNat).length 4 fun i=>As ((e.S.Procs.take e.Pid.toNat).getD i default))
  rw [hl]
  exact VV.le_sl (.inl rfl) fun j hj=>A2 (by rw [Qp hj])
 have hal:∀ b,decide (e.S.Alone>=((e.Pid.toNat:Nat):Int))=b->decide (e.Pid<=e.S.Alone)=b:=fun b hb=>by rw [← hb,Bool.eq_iff_iff,decide_eq_true_eq,decide_eq_true_eq];omega
 refine Ag Ak Aj Tryz.func18 (by kernel_rfl) rfl (Zb (Abo e) e) ⟨e.S,MF h.ok.fit,⟨h0,by omega⟩,fun h1=>⟨trivial,?_⟩,fun h1=>⟨trivial,?_⟩⟩
 ·refine VV.le_agg ⟨VV.le_refl _,VV.le_refl _,hrow,VV.le_refl _,VV.le_eq ?_,VV.le_refl _,trivial⟩
  show _=Aa (bif decide (e.Pid<=e.S.Alone) then -1 else e.S.Alone)
  rw [hal _ h1]<;>rfl
 ·refine VV.le_agg ⟨VV.le_refl _,VV.le_refl _,hrow,VV.le_refl _,VV.le_eq ?_,VV.le_refl _,trivial⟩
  show _=Aa (bif decide (e.Pid<=e.S.Alone) then -1 else e.S.Alone)
  rw [hal _ h1]<;>rfl
theorem Acy {l:List D.Process} {t j:Nat} {F:Nat->List VV} {to:Int} (ht:t<l.length) (hj:j<l.length) (hF:∀ i,i<l.length->F i=As (l.getD i default)) :
  (bif j.beq t then (bif Nat.beq 1 4 then [Aa to] else List.take 1 (F t)++[Aa to]++List.drop 2 (F t)) else F j)=As ((l.set t { l.getD t default with Loc:=to }).getD j default):=by
 rw [← LB hj,hF t ht,hF j hj]
 all_goals rfl
theorem YA (h:CH e) (hin:w∈A5 e) (h0:0<=w.Way):AgO e w/\(0<=w.With->Rf e (C4 e w).S w):=by
 obtain ⟨a1,a2,a3⟩:=(Oa hin).2 h0
 obtain ⟨_,_,a4,_⟩:=a3 w hin
 have hw:=h.ws (Mx a1 a2)
 have hA:C4 e w∈Bw (Ct e) w.Esc:=Au (by omega)
 have hB:0<=w.With->Rf e (C4 e w).S w/\w.With≠e.Pid/\w.With<e.S.Procs.length:=fun hv=>by
  obtain ⟨m1,m2,m3,m4,m5,m6,m7,m8,m9,m10⟩:=(Ac9 hin).2 hv
  exact ⟨⟨⟨⟨h.ok.fits,h.ok.may,h.ok.wf,by show -1<=w.With;omega,m3⟩,hv⟩,m5,m6,m7,m8,m9,m10⟩,m2,m3⟩
 refine ⟨⟨hw.st _ hA,hw.to _ hA,fun hv=>?_⟩,fun hv=>(hB hv).1⟩
 obtain ⟨m,n1,n2⟩:=hB hv
 exact ⟨n1,n2,m.st,m.kB,(m.hB.ws (Mx m.b1 m.b2)).to _ (Au (by have:=m.b3;have:=m.b4;omega))⟩
theorem Agx (h:CH e) (h0:Ee e=0) (hin:w∈A5 e):Ai Tryz.prog 9 [] [.agg (Af e),.agg (Bu w)] [] (.tup [.agg (An (goE CV e w).1),BV (goE CV e w).2.1,Aa (goE CV e w).2.2]):=by
 have hl:=JJ h
 have hcopy:=MF h.ok.fit
 have hpid:=h.ok.pid
 have hp0:=h.p0
 have hq:goE CV e w=bif decide (w.Err≠0) then (XJ,⟨#[]⟩,w.Err) else bif decide (w.Way<0) then (Abo e,⟨#[]⟩,0)
   else bif decide ((Dw CV e (C4 e w).S w).2.2≠0) then (XJ,⟨#[]⟩,(Dw CV e (C4 e w).S w).2.2) else (Ke e w (Dw CV e (C4 e w).S w).1.S,(Dw CV e (C4 e w).S w).2.1,0):=rfl
 have hgoes:=YA h hin
 have hlaw:=Oa hin
 have hkeep:0<=w.Way->e.S.Procs.length<=(Dw CV e (C4 e w).S w).1.S.Procs.length:=fun hw=>by
  have g:=(hgoes hw).1
  exact (UN (pr:=CV) h.ok.wf (Ez.1 h.ok.fits) g.st (fun hk hr=>Tt hin hw hk hr) (fun hv=>(g.v hv).2.2.1.t6 (g.v hv).2.2.2.1)).keep.len
 have hdoes:0<=w.Way->Ai Tryz.prog 22 (hsE e) [.bp 0 0,.agg (Ap (C4 e w).S),.agg (Bu w)] (hsE (Dw CV e (C4 e w).S w).1) (.tup [BV (Dw CV e (C4 e w).S w).2.1,Aa (Dw CV e (C4 e w).S w).2.2]):=fun hw=>by
  have g:=(hgoes hw).1.st
  exact Abs h.ok g (fun _ hv=>(hgoes hw).2 hv) fun _ _=>WO g.wf.Text fun x hx=>Ad5 h.ok.wf hx
 generalize goE CV e w=r at hq ⊢
 generalize Dw CV e (C4 e w).S w=y at hq hdoes hkeep
 refine Ag Ak Aj Tryz.func9 (by kernel_rfl) rfl (Rl r e w) ⟨Ee e,KY h.ok.wf h.small,fun h1=>?_,fun _=>⟨A5 e,E5 h,decide (w∈A5 e),Iz (by omega),fun hb=>?_,fun _=>⟨fun hb=>?_,fun hb1=>⟨fun hb=>⟨Abo e,Vs h,?_⟩,fun hw=>?_⟩⟩⟩⟩
 ·rw [h0] at h1;cases h1
 ·rw [decide_eq_true hin] at hb;cases hb
 ·rw [AJ] at hb
  rw [hb,cond_true] at hq
  subst hq
  exact ⟨trivial,Pf⟩
 ·rw [AJ] at hb1
  rw [hb1,cond_false,hb,cond_true] at hq
  subst hq
  exact ⟨trivial,VV.le_refl _⟩
 rw [AJ] at hb1
 rw [hb1,cond_false,hw,cond_false] at hq
 have hw0:0<=w.Way:=by have:=of_decide_eq_false hw;omega
 obtain ⟨a1,a2,a3⟩:=hlaw.2 hw0
 obtain ⟨_,_,a4,_⟩:=a3 w hin
 have hlen:=hkeep hw0
 refine ⟨e.S,hcopy,Ct e,GW h,C4 e w,VD a1 a2 hw0 a4,y,hdoes hw0,fun hb=>?_,fun hb2=>⟨fun hb=>?_,fun hb=>⟨by omega,?_⟩⟩⟩
 ·rw [AJ] at hb
  rw [show decide (y.2.2≠0)=true from hb,cond_true] at hq
  subst hq
  exact ⟨trivial,Pf⟩
 ·have hv:0<=w.With:=of_decide_eq_true hb
  have m:=(hgoes hw0).2 hv
  obtain ⟨v1,v2,_⟩:=(hgoes hw0).1.v hv
  refine ⟨Ct (CI e w.With),GW m.hB,GM e w,VD m.b1 m.b2 m.b3 m.b4,by omega,by omega,?_⟩
  rw [AJ] at hb2
  rw [show decide (y.2.2≠0)=false from hb2,cond_false] at hq
  subst hq
  refine ⟨trivial,VV.le_tup ⟨VV.le_agg ⟨VV.le_refl _,VV.le_refl _,?_,VV.le_refl _,VV.le_refl _,VV.le_refl _,trivial⟩,VV.le_refl _,VV.le_refl _,trivial⟩⟩
  show VV.le (.sl true y.1.S.Procs.length 4 _) (AW true (Ke e w y.1.S).Procs)
  have hg:(Ke e w y.1.S).Procs=DV (DV y.1.S.Procs w.With (GM e w).To) e.Pid (C4 e w).To:=by
   unfold Ke
   rw [decide_eq_true hv]<;>rfl
  rw [hg]
  show VV.le (.sl true y.1.S.Procs.length 4 _) (.sl true (DV (DV y.1.S.Procs w.With (GM e w).To) e.Pid (C4 e w).To).length 4 _)
  rw [Eb,Eb]
  refine VV.le_sl (.inl rfl) fun j hj=>A2 ?_
  exact Acy (l:=DV y.1.S.Procs w.With (GM e w).To) (t:=e.Pid.toNat) (to:=(C4 e w).To) (by rw [Eb];omega) (by rw [Eb];exact hj) fun i hi=>LB (l:=y.1.S.Procs) (t:=w.With.toNat) (p:={ y.1.S.Procs.getD w.With.toNat default with Loc:=(GM e w).To }) (by rw [Eb] at hi;exact hi)
 ·have hv:¬ 0<=w.With:=of_decide_eq_false hb
  rw [AJ] at hb2
  rw [show decide (y.2.2≠0)=false from hb2,cond_false] at hq
  subst hq
  refine ⟨trivial,VV.le_tup ⟨VV.le_agg ⟨VV.le_refl _,VV.le_refl _,?_,VV.le_refl _,VV.le_refl _,VV.le_refl _,trivial⟩,VV.le_refl _,VV.le_refl _,trivial⟩⟩
  show VV.le (.sl true y.1.S.Procs.length 4 _) (AW true (Ke e w y.1.S).Procs)
  have hg:(Ke e w y.1.S).Procs=DV y.1.S.Procs e.Pid (C4 e w).To:=by
   unfold Ke
   rw [decide_eq_false hv]<;>rfl
  rw [hg]
  show VV.le (.sl true y.1.S.Procs.length 4 _) (.sl true (DV y.1.S.Procs e.Pid (C4 e w).To).length 4 _)
  rw [Eb]
  refine VV.le_sl (.inl rfl) fun j hj=>A2 ?_
  exact LB (l:=y.1.S.Procs) (t:=e.Pid.toNat) (p:={ y.1.S.Procs.getD e.Pid.toNat default with Loc:=(C4 e w).To }) hj
end
end Go.Proofs.YtiaebjpcgjkhoaaGreatDoor
namespace Go.Proofs.YtiaebjpcgjkhoaaGreatDoor
open Go.RowKit
theorem AaO {x:List Int} (hx:Len x.length):Ai Tryz.prog 11 [] [Ad true x,Ad true x] [] (Ac true):=by
 unfold Len at hx
 refine Ag Ak Aj Tryz.func11 (by kernel_rfl) rfl (RW true x x) ⟨fun h=>by simp at h,fun _=>?_⟩
 refine AD Ak Aj x.length (fun k=>RJ x x k) (fun _=>True) (by kernel_rfl) (by kernel_rfl) trivial ?_
 intro k hk _ J next
 refine Bb.raw (Aai true x x k J) ⟨fun hlt=>?_,fun hge=>Ao rfl⟩
 have hlt':k<x.length:=by have:=AQ hlt;omega
 refine ⟨⟨by omega,by omega⟩,⟨by omega,by omega⟩,fun h=>by simp at h,fun _=>?_⟩
 rw [Am (by omega)]
 exact next _ hlt' trivial (Up.of rfl)
theorem Ue {e:D.Env} (hw:VA e):Ai Tryz.prog 3 [] [.agg (Af e)] [] (Ac true):=by
 refine Ag Ak Aj Tryz.func3 (by kernel_rfl) rfl (W6 true e) ⟨true,V4,L4 e,RY hw,fun h=>Ao rfl,fun _=>⟨IB e,N3 hw.M (Tq hw.S),?_⟩⟩
 have hcase:(IB e).1=[]∨(Ee e=0/\CH e/\(IB e).1=A5 e):=by
  have hq:IB e=bif decide (Ee e≠0) then ([],Ee e) else (A5 e,0):=rfl
  cases c:decide (Ee e≠0) with
  | true=>rw [hq,c];exact .inl rfl
  | false=>rw [hq,c];exact .inr ⟨by simpa using c,MD hw.M (by simpa using c),rfl⟩
 change AA _ _ (Hz e true (IB e).1 0)
 generalize (IB e).1=l at hcase
 have hlen:l.length<=16778240:=by
  rcases hcase with rfl | ⟨_,h,rfl⟩
  ·simp
  ·exact JJ h
 refine AD Ak Aj l.length (fun k=>Hz e true l k) (fun _=>True) (by kernel_rfl) (by kernel_rfl) trivial ?_
 intro i hi _ J next
 refine Bb.raw (Ug true e true l i J) ⟨fun hlt=>?_,fun hge=>Ao rfl⟩
 have hlt':i<l.length:=by have:=AQ hlt;omega
 have hto:(i:Int).toNat=i:=by omega
 rw [hto]
 obtain ⟨h0,hP,rfl⟩:Ee e=0/\CH e/\l=A5 e:=by
  rcases hcase with rfl | h
  ·simp at hlt'
  ·exact h
 have hin:(A5 e).getD i default∈A5 e:=Au hlt'
 have goon:J (Hz e true (A5 e) ((i:Int)+1)):=next _ hlt' trivial (Up.of rfl)
 refine ⟨⟨by omega,by omega⟩,goE CV e ((A5 e).getD i default),Agx hP h0 hin,fun _=>by rw [Am (by omega)];exact goon,fun hz=>?_⟩
 have W:=Adq (pr:=CV) hP hin (fun h=>(YA hP hin h).1) (by simpa using hz)
 have hwi:(A5 e).getD (i:Int).toNat default=(A5 e).getD i default:=by rw [hto]
 generalize (goE CV e ((A5 e).getD i default)).1=s at W ⊢
 have hst:=Ez.2 W.fits
 have hfit:=Sq hP.ok.may hst
 have hn1:=W.n1
 have hn2:=W.n2
 have hpl:=hP.ok.fit.p
 refine ⟨Cu e.M s,Qz hfit.small (Ky hP.ok.may).clp,fun hb=>?_,fun _=>?_⟩
 ·exfalso
  rw [hst,W.last,W.claim,A1 (by omega) (by omega),A1 (by omega) (by omega)] at hb
  simp at hb
  omega
 change AA _ _ (Hx e true (A5 e) i s 0)
 refine AD Ak Aj s.Procs.length (fun k=>Hx e true (A5 e) i s k) (fun _=>True) (by kernel_rfl) (by kernel_rfl) trivial ?_
 intro k hk _ J2 next2
 refine Bb.raw (Uf true e true (A5 e) i s k J J2) ⟨fun hlt2=>?_,fun _=>by rw [Am (by omega)];exact goon⟩
 have hk1:k<s.Procs.length/\k<e.S.Procs.length:=by
  rw [AM] at hlt2
  simp at hlt2
  omega
 have hto2:(k:Int).toNat=k:=by omega
 have go2:J2 (Hx e true (A5 e) i s ((k:Int)+1)):=next2 _ hk1.1 trivial (Up.of rfl)
 rw [hto,hto2,Am (by omega)]
 refine ⟨fun _=>⟨by omega,by omega⟩,fun _=>go2,fun hm=>?_⟩
 have hm:(k:Int)≠e.Pid/\(k:Int)≠((A5 e).getD i default).With:=by
  rw [Bd] at hm
  simpa using hm
 obtain ⟨o1,o2,o3⟩:=W.old k hk1.1 hk1.2 hm.1 hm.2
 refine ⟨⟨by omega,by omega⟩,⟨by omega,by omega⟩,true,?_,fun _=>⟨by omega,by omega⟩,fun _=>⟨by omega,by omega⟩,fun _=>⟨by omega,by omega⟩,fun _=>⟨by omega,by omega⟩,fun hb=>?_,fun _=>go2⟩
 ·rw [o1]
  exact AaO (hP.small.ps _ (Au hk1.2))
 ·rw [o2,o3] at hb
  simp at hb
end Go.Proofs.YtiaebjpcgjkhoaaGreatDoor
namespace Go.Proofs.YtiaebjpcgjkhoaaGreatDoor
open Go.ChangeShapes Go.WideShapes Go.ChangeAt Go.RowKit
theorem own : ownKnob Tryz.prog.godebug=none:=by kernel_rfl
theorem AeT : laidOutB Tryz.prog=true:=by kernel_rfl
theorem PQ {H:Type} {enc:TypeId × Value->H} {P:Program} (hl:laidOutB P=true) {W W':World} (hb:Below W.heap.size W W') :
  ∀ (ts:List TypeId) (vs:List Value) (ds:List (DataW H)) (ps:List MemPlace),ts.all (fun t=>P.readableRec t&&decide (t<P.types.size))=true ->
   DataW.TrodAll enc P W 0 (fun _=>true) true ts vs ds ps->DataW.TrodAll enc P W' 0 (fun b=>decide (b<W.heap.size)) true ts vs ds ps:=by
 intro ts
 induction ts with
 | nil =>
  intro vs ds ps _ h
  obtain ⟨rfl,rfl,rfl⟩:=trodAll_nil h
  exact trodAll_mk0
 | cons t ts ih =>
  intro vs ds ps ht h
  rw [List.all_cons,Bool.and_eq_true,Bool.and_eq_true] at ht
  obtain ⟨v,vs',d,ds',p,q,rfl,rfl,rfl,h1,h2⟩:=trodAll_cons h
  have lt1:∀ x∈p,x.block<W.heap.size:=by obtain ⟨m,hm⟩:=h1;exact DataW.trod_lt m _ _ _ hm
  exact trodAll_cons_mk (Below.trod hl ht.1.1 (of_decide_eq_true ht.1.2) h1 hb lt1) (ih vs' ds' q ht.2 h2)
theorem Adi {H:Type} {enc:TypeId × Value->H} {P:Program} {f:Func} {s:ChangeSpec} {tb:TypeId} (hl:laidOutB P=true)
  (hp:f.params.toList.all (fun t=>P.readableRec t&&decide (t<P.types.size))=true) (hr:f.resultTypes=#[tb]) (htb:P.underlying tb=some .bool) (hvars:s.vars=[])
  {W W':World} {args:Array Value} {ds gs:List (DataW H)} {before:List MemPlace}
  (hW:DataW.Whole enc P f.params.toList s.vars false W args.toList ds gs before)
  (hfn:∀ ds,ds.length=f.params.toList.length->s.fn H ds={ results:=[.lit (.bool true)],args:=ds }) (hb:Below W.heap.size W W') :
  s.post enc P f false true false false W args (.bool true) W':=by
 have hW':=hW
 obtain ⟨p,q,hA,hV,rfl,hfz,hnd⟩:=hW
 rw [hvars] at hV
 obtain ⟨rfl,rfl⟩:=trodVars_none hV
 have hlen:∀ (ts:List TypeId) (vs:List Value) (ds:List (DataW H)) (ps:List MemPlace),DataW.TrodAll enc P W 0 (fun _=>true) true ts vs ds ps->ds.length=ts.length:=by
  intro ts
  induction ts with
  | nil=>intro vs ds ps h;obtain ⟨_,rfl,_⟩:=trodAll_nil h;rfl
  | cons t ts ih=>intro vs ds ps h;obtain ⟨v,vs',d,ds',p,q,rfl,rfl,rfl,_,h2⟩:=trodAll_cons h;simp [ih _ _ _ h2]
 have hf:=hfn (ds++[]) (by simpa using hlen _ _ _ _ hA)
 refine ⟨ds,[],_,[],p,[],hW',?_,?_,?_,hb.frame _,fun h=>by cases h⟩
 ·rw [hf,hr];exact trodAll_mk1 (shut_bool htb _)
 ·rw [hf,List.append_nil];exact PQ hl hb _ _ _ _ hp hA
 ·rw [hf,hvars];rfl
end Go.Proofs.YtiaebjpcgjkhoaaGreatDoor
namespace Go.Proofs.YtiaebjpcgjkhoaaGreatDoor
open Go.ChangeShapes Go.WideShapes Go.ChangeAt Go.RowKit
theorem Ahn : (Tryz.prog.globals[0]?).map (·.type)=some 225:=by kernel_rfl
theorem AdQ : Tryz.prog.cellsOf 225=20:=by kernel_rfl
theorem AdP : Tryz.prog.cellsOf 137=1:=by kernel_rfl
theorem Ahw : (Tryz.prog.globals[2]?).map (·.type)=some 244:=by kernel_rfl
theorem Afc : Tryz.prog.cellsOf 244=64:=by kernel_rfl
theorem Afb : Tryz.prog.cellsOf 5=1:=by kernel_rfl
theorem AaP : Rows.execWholeRow.laid.filter (fun x=>x.2.handleName?.isSome)=[]:=by kernel_rfl
theorem Adg {W:World} (h:laidMetH Tryz.prog Rows.execWholeRow.laid W):Cq W/\∀ k,k∈Fy->k<W.heap.size:=by
 unfold laidMetH at h
 rw [AaP] at h
 have h:laidMet Tryz.prog Rows.execWholeRow.laid W:=h
 have h1:=h.tail
 have h2:=h1.tail
 have hL:Cq W:=⟨Lib.tabIs_of_head Sg Ahn Tryz.underlying225 Tryz.underlying137 AdP AdQ h2,
  Lib.tabIs_of_head QQ Ahw Tryz.underlying244 Tryz.underlying5 Afb Afc h1⟩
 refine ⟨hL,fun k hk=>?_⟩
 have lt:∀ {g i:Nat} {v:Value},W.cell? ⟨g,i,none⟩=some v->g<W.heap.size:=fun {g i v} h=>by
  rcases Nat.lt_or_ge g W.heap.size with h' | h'
  ·exact h'
  ·simp [World.cell?,Array.getElem?_eq_none h'] at h
 simp only [Fy,List.mem_cons,List.mem_nil_iff,or_false] at hk
 rcases hk with rfl | rfl
 ·exact lt (hL.tab.cell Sg 0 (by decide))
 ·exact lt (hL.db.cell QQ 0 (by decide))
def Afx : DataW Unit->Value
 | .lit (.int k n)=>.int k n
 | _=>undef
def Adw : DataW Unit->Array Value
 | .agg l=>(l.flatMap fun x=>match x with
  | .agg m=>m.map Afx
  | y=>[Afx y]).toArray
 | _=>#[]
def Agl (c:Array Value):Obj->Obj
 | .cells _ t frozen=>.cells c t frozen
 | o=>o
noncomputable def Mz (os:Os):World :=
 let w0:=World.holding Tryz.prog os ⟨#[],#[],[]⟩
 { w0 with heap:=((w0.heap.modify 1 (Agl (Adw Rows.laid_math_bits_deBruijn32tab))).modify 2 (Agl (Adw Rows.laid_math_bits_deBruijn64tab))).modify 0 (Agl (Adw Rows.laid_internal_strconv_uint64pow10)) }
def PZ : Value:=.slice none 0 0
def zI : Value:=.int .i64 0
def XP : Array Value:=#[.agg #[PZ,PZ,PZ,PZ,PZ,zI,PZ,PZ,PZ,PZ,zI,zI,zI,zI,.bool false,PZ]]
set_option maxRecDepth 100000 in
theorem Adj (os:Os):laidMet Tryz.prog Rows.execWholeRow.laid ((Mz os).forCall (fun _ _=>0) ⟨#[],XP,[]⟩).memory :=
 laidMet_of_run' 8 (by kernel_rfl) (by kernel_rfl)
end Go.Proofs.YtiaebjpcgjkhoaaGreatDoor
