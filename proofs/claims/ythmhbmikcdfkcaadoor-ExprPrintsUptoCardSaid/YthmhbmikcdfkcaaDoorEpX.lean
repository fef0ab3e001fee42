/-
  The document's Print, walked (written by mkepx.py).
-/
import Derived.Test.YthmhbmikcdfkcaaDoorEpW
import Derived.Test.YthmhbmikcdfkcaaDoorGpL
import Derived.Test.YthmhbmikcdfkcaaDoorGpH
import Derived.Lib.AppendStr
import Derived.Deep.RegionHeld3
namespace Go.Proofs.YthmhbmikcdfkcaaDoor
open Go.RowKit
theorem info_u8 : (Tryd.prog.info? 5).map (fun i => (i.zero, i.size, i.bytes)) = some (some (.int .u8 0), 1, 1) := by kernel_rfl
section
variable {P : Program} (w : World)
theorem step_append_string {ops : Array Oper} {o : Oper} {a : Act} {K : Act → World → Prop} {Q : Exit → Act → World → Prop} {E : Prop} (hgd : o.guard = none) (sl x : Operand) (t u : TypeId)
    (ho : o.op = .call { callee := .builtin .append, args := #[sl, x], argTypes := #[t, u] })
    (base : Nat) (e : TypeId) (i : TypeInfo) (ht : P.underlying t = some (.slice e)) (hu : P.underlying u = some .string) (hi : P.info? e = some i) (hz : i.zero = some (.int .u8 0))
    (hsize : i.size = 1) (hby : i.bytes = 1)
    (v : Value) (n : Nat) (xs : List Value) (hs : a.eval sl = v) (hown : w.ownsRow base e 1 v n xs) (s : ByteArray) (hx : a.eval x = .string s)
    (h63 : n + s.size ≤ maxLen) (hbytes : n + s.size ≤ 140737488355328) (hbase : base ≤ w.heap.size)
    (h : ∀ v' w', w'.ownsRow base e 1 v' (n + s.size) (xs ++ Lib.strCells s) → w.grownBy w' v.ownBlock → K (a.put o.dst v') w') :
    if Region.wanted o (yielded ops a.tmps) = true then Oper.wp P o a w K Q else E := by
  have hw : Region.wanted o (yielded ops a.tmps) = true := by simp [Region.wanted, hgd]
  rw [if_pos hw]
  obtain ⟨v', w', hr, h2, h3, _⟩ := Lib.run_append_own_string (P := P) w base t u o.type e i ht hu hi hz hsize hby v n xs hown s h63 hbytes hbase
  unfold Oper.wp execOp
  simp only [ho, resolve, invoke, builtin, Sem.run_bind, Sem.run_pure, Result.andThen_ok, List.map_toArray, List.map_cons, List.map_nil, hs, hx, hr]
  exact h v' w' h2 h3
end
theorem str_cells (T : By) (s : ByteArray) : Lib.byteCells T ++ Lib.strCells s = Lib.byteCells (T ++ bs s) := by simp [Lib.byteCells, Lib.strCells, bs]
theorem own_bytes {w w' : World} {n0 : Nat} {e : TypeId} {v : Value} {n : Nat} {xs : List Value} (h : w.ownsRow n0 e 1 v n xs) (hb : Below w.heap.size w w') : w'.ownsRow n0 e 1 v n xs := ownsRow_same h fun k hk => hb.block k (h.lt k hk).2
theorem conv_own {w : World} {n0 : Nat} {v : Value} {T : By} (h : w.ownsRow n0 5 1 v T.length (Lib.byteCells T)) : (convert 70 9 v).run Tryd.prog w = .ok (.string (mk T)) w := by
  rcases h.2 with ⟨rfl, hn⟩ | ⟨g, cap, cur, rfl, hb, hg, h1, h2, _⟩
  · have hT : T = [] := by
      first
        | exact List.eq_nil_of_length_eq_zero hn
        | (cases T with | nil => rfl | cons a r => simp [Lib.byteCells] at hn)
    subst hT
    rw [run_convert_bytes_string w 70 9 5 none 0 0 Tryd.underlying70 Tryd.underlying5 Tryd.underlying9]
    rfl
  · refine run_convert_bytes_back (P := Tryd.prog) w 70 9 5 ⟨g, 0, none⟩ cap T Tryd.underlying70 Tryd.underlying5 Tryd.underlying9 fun j hj => ?_
    rw [Addr.add_lit, Nat.zero_add, h.cellAt j (by simpa using hj)]
    simp [Lib.byteCells, hj]
/-- Where the walk stands. -/
structure RpI (w : World) (t : ByteArray) (l : List Int) (o : Value) (k j : Nat) (T : By) (W : World) : Prop where
  hj : j ≤ t.size
  hk : k ≤ l.length
  len : T.length ≤ 64 * j
  eq : T ++ printG ((bs t).drop j) (l.drop k) = printG (bs t) l
  row : W.ownsRow w.heap.size 5 1 o T.length (Lib.byteCells T)
  bel : Below w.heap.size w W
set_option maxRecDepth 100000 in
set_option maxHeartbeats 16000000 in
theorem rprint_calls {w : World} {t : ByteArray} {l : List Int} {a : Option Addr} {cap : Nat} (hL : LibAt w) (hlB : ∀ k, k ∈ libB → k < w.heap.size) (h1 : l.length ≤ cap) (h2 : cap ≤ maxLen) (ha : NumsAt w a l) (hI : ∀ n ∈ l, I64 n) (ht : t.size ≤ 1099511627776) :
    Calls Tryd.prog 7 #[.string t, .slice a l.length cap] w fun e w' => e = .returned (.string (printP t l)) ∧ Below w.heap.size w w' := by
  obtain ⟨ki, khi, khz, khz1, khz2⟩ := info_parts' info_u8
  have hcap := h2
  unfold maxLen at hcap
  go_enter Tryd.func7, Tryd.ntmps7
  go_wp2
  go_loopw [5, 6, 7] (fun ov kv iv wr => ∃ (o : Value) (k j : Nat) (T : By), o = ov ∧ kv = .int .i64 k ∧ iv = .int .i64 j ∧ RpI w t l o k j T wr) (fun _ _ iv _ => t.size - (intOf iv).toNat)
  case atStart => exact ⟨_, 0, 0, [], rfl, rfl, rfl, Nat.zero_le _, Nat.zero_le _, Nat.zero_le _, rfl, World.ownsRow_nil _ _ _ _, Below.refl _ _⟩
  case round =>
    obtain ⟨ov, k, j, T, rfl, rfl, rfl, hr⟩ := hrel
    obtain ⟨hj, hk, hlen, heq, hrow, hbel⟩ := hr
    have hbs := hbel.size
    by_cases hlt : j < t.size
    · have hdk := drop_bs hlt
      rw [hdk] at heq
      by_cases hA : (t[j]'hlt).toNat ≠ 37 ∨ j + 1 = t.size
      · have hpg : printG ((t[j]'hlt) :: (bs t).drop (j + 1)) (l.drop k) = (t[j]'hlt) :: printG ((bs t).drop (j + 1)) (l.drop k) := pg_plain (hA.imp id fun h => List.drop_of_length_le (by rw [← size_bs]; omega))
        rw [hpg] at heq
        clear hpg hdk
        have next : ∀ v' w3, w3.ownsRow w.heap.size 5 1 v' (T.length + 1) (Lib.byteCells T ++ [.int .u8 ((t[j]'hlt).toNat : Int)]) → ((wr.alloc (.cells #[.int .u8 ((t[j]'hlt).toNat : Int)] 5)).grownBy w3 ov.ownBlock) → Hid (RpI w t l v' k (j + 1) (T ++ [t[j]'hlt]) w3) := fun v' w3 ho hg =>
          ⟨by omega, hk, by simp; omega, by rw [← heq]; simp, by simpa [Lib.byteCells] using ho, (hbel.alloc hbs _).grown hg (by simp; omega) fun b hb => (hrow.lt b hb).1⟩
        by_cases hc : (t[j]'hlt).toNat = 37
        · have hk1 : j + 1 = t.size := by omega
          rw [hc, show ((37 : Nat) : Int) = 37 from rfl] at next
          go_wp2_with (at_builtin; refine wpList_append_own _ rfl _ _ 70 rfl w.heap.size 5 ki (.int .u8 0) 1 1 Tryd.underlying70 khi khz khz1 khz2 rfl (by decide) ov T.length (Lib.byteCells T) rfl ?qrow ⟨wr.heap.size, 0, none⟩ 1 1 [.int .u8 37] rfl ?qc1 ?qc2 ?qc3 ?qc4 ?qc5 ?qc6 ?_)
          case qrow => exact own_bytes hrow (below_oneW _ _)
          case qc1 => rfl
          case qc2 => exact World.news_of_block (heap_alloc_new wr (.cells #[.int .u8 37] 5))
          case qc3 => intro u hu; simp at hu; subst hu; rfl
          case qc4 => unfold maxLen; omega
          case qc5 => omega
          case qc6 => simp; omega
          intro v2 w3 hown3 hgrow3 _
          have HR := next v2 w3 hown3 hgrow3
          clear hown3 hgrow3 next hrow hbel heq
          go_wp2
          go_roundw
          case rel => exact ⟨v2, k, j + 1, _, rfl, rfl, by go_num, HR.out⟩
          case measure => simp [intOf]; omega
        · go_wp2_with (at_builtin; refine wpList_append_own _ rfl _ _ 70 rfl w.heap.size 5 ki (.int .u8 0) 1 1 Tryd.underlying70 khi khz khz1 khz2 rfl (by decide) ov T.length (Lib.byteCells T) rfl ?qrow ⟨wr.heap.size, 0, none⟩ 1 1 [(.int .u8 ((t[j]'hlt).toNat : Int))] rfl ?qc1 ?qc2 ?qc3 ?qc4 ?qc5 ?qc6 ?_)
          case qrow => exact own_bytes hrow (below_oneW _ _)
          case qc1 => rfl
          case qc2 => exact World.news_of_block (heap_alloc_new wr (.cells #[(.int .u8 ((t[j]'hlt).toNat : Int))] 5))
          case qc3 => intro u hu; simp at hu; subst hu; rfl
          case qc4 => unfold maxLen; omega
          case qc5 => omega
          case qc6 => simp; omega
          intro v2 w3 hown3 hgrow3 _
          have HR := next v2 w3 hown3 hgrow3
          clear hown3 hgrow3 next hrow hbel heq
          go_wp2
          go_roundw
          case rel => exact ⟨v2, k, j + 1, _, rfl, rfl, by go_num, HR.out⟩
          case measure => simp [intOf]; omega
      · have hc : (t[j]'hlt).toNat = 37 := by omega
        have hk1 : j + 1 < t.size := by omega
        have hk2 : ¬ j + 1 = t.size := by omega
        have hdk2 := drop_bs hk1
        rw [eq_37 hc, hdk2] at heq
        clear hA hdk
        by_cases h37 : (t[j + 1]'hk1).toNat = 37
        · rw [eq_37 h37, pg_pp] at heq
          have next : ∀ v' w3, w3.ownsRow w.heap.size 5 1 v' (T.length + 1) (Lib.byteCells T ++ [.int .u8 37]) → ((wr.alloc (.cells #[.int .u8 37] 5)).grownBy w3 ov.ownBlock) → Hid (RpI w t l v' k (j + 2) (T ++ [37]) w3) := fun v' w3 ho hg =>
            ⟨by omega, hk, by simp; omega, by rw [← heq]; simp, by simpa [Lib.byteCells] using ho, (hbel.alloc hbs _).grown hg (by simp; omega) fun b hb => (hrow.lt b hb).1⟩
          go_wp2_with (at_builtin; refine wpList_append_own _ rfl _ _ 70 rfl w.heap.size 5 ki (.int .u8 0) 1 1 Tryd.underlying70 khi khz khz1 khz2 rfl (by decide) ov T.length (Lib.byteCells T) rfl ?qrow ⟨wr.heap.size, 0, none⟩ 1 1 [.int .u8 37] rfl ?qc1 ?qc2 ?qc3 ?qc4 ?qc5 ?qc6 ?_)
          case qrow => exact own_bytes hrow (below_oneW _ _)
          case qc1 => rfl
          case qc2 => exact World.news_of_block (heap_alloc_new wr (.cells #[.int .u8 37] 5))
          case qc3 => intro u hu; simp at hu; subst hu; rfl
          case qc4 => unfold maxLen; omega
          case qc5 => omega
          case qc6 => simp; omega
          intro v2 w3 hown3 hgrow3 _
          have HR := next v2 w3 hown3 hgrow3
          clear hown3 hgrow3 next hrow hbel heq
          go_wp2
          go_roundw
          case rel => exact ⟨v2, k, j + 2, _, rfl, rfl, by go_num, HR.out⟩
          case measure => simp [intOf]; omega
        · by_cases hsh : isShow (t[j + 1]'hk1) = true
          · rw [pg_show h37 hsh] at heq
            by_cases hkl : k < l.length
            · have hdl : l.drop k = l.getD k 0 :: l.drop (k + 1) := by rw [List.drop_eq_getElem_cons hkl]; simp [List.getD, hkl]
              rw [hdl] at heq
              obtain ⟨bb, off, rfl, hbb, hcs⟩ := ha (by omega)
              have hcell := hcs k hkl
              rw [← hbel.cell (p := ⟨bb, off + k, none⟩) hbb] at hcell
              have hbw : bb < wr.heap.size := by omega
              have hIn := hI _ (getD_mem (d := (0 : Int)) hkl)
              clear hdl hcs
              generalize l.getD k 0 = n at *
              have hsz := size_show (c := t[j + 1]'hk1) hIn
              rw [size_mk] at hsz
              have e1 : ((n :: l.drop (k + 1)).take 1).flatMap (showB (t[j + 1]'hk1)) = showB (t[j + 1]'hk1) n := by simp
              rw [e1, List.tail_cons] at heq
              clear e1
              rcases show_cases hsh with hd | hd | hd | hd | hd | hd | hd
              · rw [show t[j + 1]'hk1 = 100 from UInt8.toNat_inj.1 hd] at heq hsz
                have HS : VSpec Tryd.prog 23 [] [.sc (.int .u8 100), intV n] [] (strV (mk (showB 100 n))) := rshown_spec (c := 100) hIn
                clear hdk2 hsh
                go_wp2
                have b1 : (0 : Int) ≤ (j : Int) + 1 := by omega
                have b2 : (j : Int) + 1 < (t.size : Int) := by omega
                have b3 : (0 : Int) ≤ (k : Int) := by omega
                have b4 : (k : Int) < (l.length : Int) := by omega
                go_region_law (first
                    | (refine step_append_string _ rfl (.tmp 59) (.tmp 67) 70 9 rfl w.heap.size 5 ki Tryd.underlying70 Tryd.underlying9 khi khz khz1 khz2 ov T.length (Lib.byteCells T) (by simp [Act.eval]) hrow2 (mk (showB 100 n)) (by simp [Act.eval]) (by unfold maxLen; rw [size_mk]; omega) (by rw [size_mk]; omega) (by omega) ?_; intro v3 w3 hown3 hgrow3; have y3 : w3.cell? ⟨bb, off + k, none⟩ = some (.int .i64 n) := (hgrow3.cell_far ⟨bb, off + k, none⟩ hbb2 (fun e => by have := (hrow.lt bb e.symm).1; omega)).trans y2)
                    | (go_simp; go_at_call 23; refine (HS.at hL hlB (below_drewN hbel 1) (says2 .sc .sc)).mono ?_; rintro r w2 ⟨u, rfl, hb2, hu⟩; obtain rfl := hu.sc_inv; have hb2' : Below wr.heap.size wr w2 := ⟨hb2.os, hb2.tape, hb2.output, hb2.size, hb2.block⟩; have hz2 := hb2'.size; have hrow2 := own_bytes hrow hb2'; have y2 : w2.cell? ⟨bb, off + k, none⟩ = some (.int .i64 n) := (hb2'.cell (p := ⟨bb, off + k, none⟩) hbw).trans hcell; have hbb2 : (⟨bb, off + k, none⟩ : Addr).block < w2.heap.size := Nat.lt_of_lt_of_le hbw hz2))
                all_goals
                  have HR : Hid (RpI w t l v3 (k + 1) (j + 2) (T ++ showB 100 n) w3) := ⟨by omega, hkl, by rw [List.length_append]; omega, by rw [← heq]; simp, by rw [str_cells, bs_mk, size_mk] at hown3; rw [List.length_append]; exact hown3, (hbel.trans (hb2'.mono hbs)).grown hgrow3 (by omega) fun b hb => (hrow.lt b hb).1⟩
                  clear hown3 hgrow3 hrow hrow2 hbel heq hb2 hb2' y2 y3 hcell
                  go_wp2
                  go_roundw
                  case rel => exact ⟨v3, k + 1, j + 2, _, rfl, by go_num, by go_num, HR.out⟩
                  case measure => simp [intOf]; omega
              · rw [show t[j + 1]'hk1 = 105 from UInt8.toNat_inj.1 hd] at heq hsz
                have HS : VSpec Tryd.prog 23 [] [.sc (.int .u8 105), intV n] [] (strV (mk (showB 105 n))) := rshown_spec (c := 105) hIn
                clear hdk2 hsh
                go_wp2
                have b1 : (0 : Int) ≤ (j : Int) + 1 := by omega
                have b2 : (j : Int) + 1 < (t.size : Int) := by omega
                have b3 : (0 : Int) ≤ (k : Int) := by omega
                have b4 : (k : Int) < (l.length : Int) := by omega
                go_region_law (first
                    | (refine step_append_string _ rfl (.tmp 59) (.tmp 67) 70 9 rfl w.heap.size 5 ki Tryd.underlying70 Tryd.underlying9 khi khz khz1 khz2 ov T.length (Lib.byteCells T) (by simp [Act.eval]) hrow2 (mk (showB 105 n)) (by simp [Act.eval]) (by unfold maxLen; rw [size_mk]; omega) (by rw [size_mk]; omega) (by omega) ?_; intro v3 w3 hown3 hgrow3; have y3 : w3.cell? ⟨bb, off + k, none⟩ = some (.int .i64 n) := (hgrow3.cell_far ⟨bb, off + k, none⟩ hbb2 (fun e => by have := (hrow.lt bb e.symm).1; omega)).trans y2)
                    | (go_simp; go_at_call 23; refine (HS.at hL hlB (below_drewN hbel 1) (says2 .sc .sc)).mono ?_; rintro r w2 ⟨u, rfl, hb2, hu⟩; obtain rfl := hu.sc_inv; have hb2' : Below wr.heap.size wr w2 := ⟨hb2.os, hb2.tape, hb2.output, hb2.size, hb2.block⟩; have hz2 := hb2'.size; have hrow2 := own_bytes hrow hb2'; have y2 : w2.cell? ⟨bb, off + k, none⟩ = some (.int .i64 n) := (hb2'.cell (p := ⟨bb, off + k, none⟩) hbw).trans hcell; have hbb2 : (⟨bb, off + k, none⟩ : Addr).block < w2.heap.size := Nat.lt_of_lt_of_le hbw hz2))
                all_goals
                  have HR : Hid (RpI w t l v3 (k + 1) (j + 2) (T ++ showB 105 n) w3) := ⟨by omega, hkl, by rw [List.length_append]; omega, by rw [← heq]; simp, by rw [str_cells, bs_mk, size_mk] at hown3; rw [List.length_append]; exact hown3, (hbel.trans (hb2'.mono hbs)).grown hgrow3 (by omega) fun b hb => (hrow.lt b hb).1⟩
                  clear hown3 hgrow3 hrow hrow2 hbel heq hb2 hb2' y2 y3 hcell
                  go_wp2
                  go_roundw
                  case rel => exact ⟨v3, k + 1, j + 2, _, rfl, by go_num, by go_num, HR.out⟩
                  case measure => simp [intOf]; omega
              · rw [show t[j + 1]'hk1 = 101 from UInt8.toNat_inj.1 hd] at heq hsz
                have HS : VSpec Tryd.prog 23 [] [.sc (.int .u8 101), intV n] [] (strV (mk (showB 101 n))) := rshown_spec (c := 101) hIn
                clear hdk2 hsh
                go_wp2
                have b1 : (0 : Int) ≤ (j : Int) + 1 := by omega
                have b2 : (j : Int) + 1 < (t.size : Int) := by omega
                have b3 : (0 : Int) ≤ (k : Int) := by omega
                have b4 : (k : Int) < (l.length : Int) := by omega
                go_region_law (first
                    | (refine step_append_string _ rfl (.tmp 59) (.tmp 67) 70 9 rfl w.heap.size 5 ki Tryd.underlying70 Tryd.underlying9 khi khz khz1 khz2 ov T.length (Lib.byteCells T) (by simp [Act.eval]) hrow2 (mk (showB 101 n)) (by simp [Act.eval]) (by unfold maxLen; rw [size_mk]; omega) (by rw [size_mk]; omega) (by omega) ?_; intro v3 w3 hown3 hgrow3; have y3 : w3.cell? ⟨bb, off + k, none⟩ = some (.int .i64 n) := (hgrow3.cell_far ⟨bb, off + k, none⟩ hbb2 (fun e => by have := (hrow.lt bb e.symm).1; omega)).trans y2)
                    | (go_simp; go_at_call 23; refine (HS.at hL hlB (below_drewN hbel 1) (says2 .sc .sc)).mono ?_; rintro r w2 ⟨u, rfl, hb2, hu⟩; obtain rfl := hu.sc_inv; have hb2' : Below wr.heap.size wr w2 := ⟨hb2.os, hb2.tape, hb2.output, hb2.size, hb2.block⟩; have hz2 := hb2'.size; have hrow2 := own_bytes hrow hb2'; have y2 : w2.cell? ⟨bb, off + k, none⟩ = some (.int .i64 n) := (hb2'.cell (p := ⟨bb, off + k, none⟩) hbw).trans hcell; have hbb2 : (⟨bb, off + k, none⟩ : Addr).block < w2.heap.size := Nat.lt_of_lt_of_le hbw hz2))
                all_goals
                  have HR : Hid (RpI w t l v3 (k + 1) (j + 2) (T ++ showB 101 n) w3) := ⟨by omega, hkl, by rw [List.length_append]; omega, by rw [← heq]; simp, by rw [str_cells, bs_mk, size_mk] at hown3; rw [List.length_append]; exact hown3, (hbel.trans (hb2'.mono hbs)).grown hgrow3 (by omega) fun b hb => (hrow.lt b hb).1⟩
                  clear hown3 hgrow3 hrow hrow2 hbel heq hb2 hb2' y2 y3 hcell
                  go_wp2
                  go_roundw
                  case rel => exact ⟨v3, k + 1, j + 2, _, rfl, by go_num, by go_num, HR.out⟩
                  case measure => simp [intOf]; omega
              · rw [show t[j + 1]'hk1 = 117 from UInt8.toNat_inj.1 hd] at heq hsz
                have HS : VSpec Tryd.prog 23 [] [.sc (.int .u8 117), intV n] [] (strV (mk (showB 117 n))) := rshown_spec (c := 117) hIn
                clear hdk2 hsh
                go_wp2
                have b1 : (0 : Int) ≤ (j : Int) + 1 := by omega
                have b2 : (j : Int) + 1 < (t.size : Int) := by omega
                have b3 : (0 : Int) ≤ (k : Int) := by omega
                have b4 : (k : Int) < (l.length : Int) := by omega
                go_region_law (first
                    | (refine step_append_string _ rfl (.tmp 59) (.tmp 67) 70 9 rfl w.heap.size 5 ki Tryd.underlying70 Tryd.underlying9 khi khz khz1 khz2 ov T.length (Lib.byteCells T) (by simp [Act.eval]) hrow2 (mk (showB 117 n)) (by simp [Act.eval]) (by unfold maxLen; rw [size_mk]; omega) (by rw [size_mk]; omega) (by omega) ?_; intro v3 w3 hown3 hgrow3; have y3 : w3.cell? ⟨bb, off + k, none⟩ = some (.int .i64 n) := (hgrow3.cell_far ⟨bb, off + k, none⟩ hbb2 (fun e => by have := (hrow.lt bb e.symm).1; omega)).trans y2)
                    | (go_simp; go_at_call 23; refine (HS.at hL hlB (below_drewN hbel 1) (says2 .sc .sc)).mono ?_; rintro r w2 ⟨u, rfl, hb2, hu⟩; obtain rfl := hu.sc_inv; have hb2' : Below wr.heap.size wr w2 := ⟨hb2.os, hb2.tape, hb2.output, hb2.size, hb2.block⟩; have hz2 := hb2'.size; have hrow2 := own_bytes hrow hb2'; have y2 : w2.cell? ⟨bb, off + k, none⟩ = some (.int .i64 n) := (hb2'.cell (p := ⟨bb, off + k, none⟩) hbw).trans hcell; have hbb2 : (⟨bb, off + k, none⟩ : Addr).block < w2.heap.size := Nat.lt_of_lt_of_le hbw hz2))
                all_goals
                  have HR : Hid (RpI w t l v3 (k + 1) (j + 2) (T ++ showB 117 n) w3) := ⟨by omega, hkl, by rw [List.length_append]; omega, by rw [← heq]; simp, by rw [str_cells, bs_mk, size_mk] at hown3; rw [List.length_append]; exact hown3, (hbel.trans (hb2'.mono hbs)).grown hgrow3 (by omega) fun b hb => (hrow.lt b hb).1⟩
                  clear hown3 hgrow3 hrow hrow2 hbel heq hb2 hb2' y2 y3 hcell
                  go_wp2
                  go_roundw
                  case rel => exact ⟨v3, k + 1, j + 2, _, rfl, by go_num, by go_num, HR.out⟩
                  case measure => simp [intOf]; omega
              · rw [show t[j + 1]'hk1 = 120 from UInt8.toNat_inj.1 hd] at heq hsz
                have HS : VSpec Tryd.prog 23 [] [.sc (.int .u8 120), intV n] [] (strV (mk (showB 120 n))) := rshown_spec (c := 120) hIn
                clear hdk2 hsh
                go_wp2
                have b1 : (0 : Int) ≤ (j : Int) + 1 := by omega
                have b2 : (j : Int) + 1 < (t.size : Int) := by omega
                have b3 : (0 : Int) ≤ (k : Int) := by omega
                have b4 : (k : Int) < (l.length : Int) := by omega
                go_region_law (first
                    | (refine step_append_string _ rfl (.tmp 59) (.tmp 67) 70 9 rfl w.heap.size 5 ki Tryd.underlying70 Tryd.underlying9 khi khz khz1 khz2 ov T.length (Lib.byteCells T) (by simp [Act.eval]) hrow2 (mk (showB 120 n)) (by simp [Act.eval]) (by unfold maxLen; rw [size_mk]; omega) (by rw [size_mk]; omega) (by omega) ?_; intro v3 w3 hown3 hgrow3; have y3 : w3.cell? ⟨bb, off + k, none⟩ = some (.int .i64 n) := (hgrow3.cell_far ⟨bb, off + k, none⟩ hbb2 (fun e => by have := (hrow.lt bb e.symm).1; omega)).trans y2)
                    | (go_simp; go_at_call 23; refine (HS.at hL hlB (below_drewN hbel 1) (says2 .sc .sc)).mono ?_; rintro r w2 ⟨u, rfl, hb2, hu⟩; obtain rfl := hu.sc_inv; have hb2' : Below wr.heap.size wr w2 := ⟨hb2.os, hb2.tape, hb2.output, hb2.size, hb2.block⟩; have hz2 := hb2'.size; have hrow2 := own_bytes hrow hb2'; have y2 : w2.cell? ⟨bb, off + k, none⟩ = some (.int .i64 n) := (hb2'.cell (p := ⟨bb, off + k, none⟩) hbw).trans hcell; have hbb2 : (⟨bb, off + k, none⟩ : Addr).block < w2.heap.size := Nat.lt_of_lt_of_le hbw hz2))
                all_goals
                  have HR : Hid (RpI w t l v3 (k + 1) (j + 2) (T ++ showB 120 n) w3) := ⟨by omega, hkl, by rw [List.length_append]; omega, by rw [← heq]; simp, by rw [str_cells, bs_mk, size_mk] at hown3; rw [List.length_append]; exact hown3, (hbel.trans (hb2'.mono hbs)).grown hgrow3 (by omega) fun b hb => (hrow.lt b hb).1⟩
                  clear hown3 hgrow3 hrow hrow2 hbel heq hb2 hb2' y2 y3 hcell
                  go_wp2
                  go_roundw
                  case rel => exact ⟨v3, k + 1, j + 2, _, rfl, by go_num, by go_num, HR.out⟩
                  case measure => simp [intOf]; omega
              · rw [show t[j + 1]'hk1 = 111 from UInt8.toNat_inj.1 hd] at heq hsz
                have HS : VSpec Tryd.prog 23 [] [.sc (.int .u8 111), intV n] [] (strV (mk (showB 111 n))) := rshown_spec (c := 111) hIn
                clear hdk2 hsh
                go_wp2
                have b1 : (0 : Int) ≤ (j : Int) + 1 := by omega
                have b2 : (j : Int) + 1 < (t.size : Int) := by omega
                have b3 : (0 : Int) ≤ (k : Int) := by omega
                have b4 : (k : Int) < (l.length : Int) := by omega
                go_region_law (first
                    | (refine step_append_string _ rfl (.tmp 59) (.tmp 67) 70 9 rfl w.heap.size 5 ki Tryd.underlying70 Tryd.underlying9 khi khz khz1 khz2 ov T.length (Lib.byteCells T) (by simp [Act.eval]) hrow2 (mk (showB 111 n)) (by simp [Act.eval]) (by unfold maxLen; rw [size_mk]; omega) (by rw [size_mk]; omega) (by omega) ?_; intro v3 w3 hown3 hgrow3; have y3 : w3.cell? ⟨bb, off + k, none⟩ = some (.int .i64 n) := (hgrow3.cell_far ⟨bb, off + k, none⟩ hbb2 (fun e => by have := (hrow.lt bb e.symm).1; omega)).trans y2)
                    | (go_simp; go_at_call 23; refine (HS.at hL hlB (below_drewN hbel 1) (says2 .sc .sc)).mono ?_; rintro r w2 ⟨u, rfl, hb2, hu⟩; obtain rfl := hu.sc_inv; have hb2' : Below wr.heap.size wr w2 := ⟨hb2.os, hb2.tape, hb2.output, hb2.size, hb2.block⟩; have hz2 := hb2'.size; have hrow2 := own_bytes hrow hb2'; have y2 : w2.cell? ⟨bb, off + k, none⟩ = some (.int .i64 n) := (hb2'.cell (p := ⟨bb, off + k, none⟩) hbw).trans hcell; have hbb2 : (⟨bb, off + k, none⟩ : Addr).block < w2.heap.size := Nat.lt_of_lt_of_le hbw hz2))
                all_goals
                  have HR : Hid (RpI w t l v3 (k + 1) (j + 2) (T ++ showB 111 n) w3) := ⟨by omega, hkl, by rw [List.length_append]; omega, by rw [← heq]; simp, by rw [str_cells, bs_mk, size_mk] at hown3; rw [List.length_append]; exact hown3, (hbel.trans (hb2'.mono hbs)).grown hgrow3 (by omega) fun b hb => (hrow.lt b hb).1⟩
                  clear hown3 hgrow3 hrow hrow2 hbel heq hb2 hb2' y2 y3 hcell
                  go_wp2
                  go_roundw
                  case rel => exact ⟨v3, k + 1, j + 2, _, rfl, by go_num, by go_num, HR.out⟩
                  case measure => simp [intOf]; omega
              · rw [show t[j + 1]'hk1 = 99 from UInt8.toNat_inj.1 hd] at heq hsz
                have HS : VSpec Tryd.prog 23 [] [.sc (.int .u8 99), intV n] [] (strV (mk (showB 99 n))) := rshown_spec (c := 99) hIn
                clear hdk2 hsh
                go_wp2
                have b1 : (0 : Int) ≤ (j : Int) + 1 := by omega
                have b2 : (j : Int) + 1 < (t.size : Int) := by omega
                have b3 : (0 : Int) ≤ (k : Int) := by omega
                have b4 : (k : Int) < (l.length : Int) := by omega
                go_region_law (first
                    | (refine step_append_string _ rfl (.tmp 59) (.tmp 67) 70 9 rfl w.heap.size 5 ki Tryd.underlying70 Tryd.underlying9 khi khz khz1 khz2 ov T.length (Lib.byteCells T) (by simp [Act.eval]) hrow2 (mk (showB 99 n)) (by simp [Act.eval]) (by unfold maxLen; rw [size_mk]; omega) (by rw [size_mk]; omega) (by omega) ?_; intro v3 w3 hown3 hgrow3; have y3 : w3.cell? ⟨bb, off + k, none⟩ = some (.int .i64 n) := (hgrow3.cell_far ⟨bb, off + k, none⟩ hbb2 (fun e => by have := (hrow.lt bb e.symm).1; omega)).trans y2)
                    | (go_simp; go_at_call 23; refine (HS.at hL hlB (below_drewN hbel 1) (says2 .sc .sc)).mono ?_; rintro r w2 ⟨u, rfl, hb2, hu⟩; obtain rfl := hu.sc_inv; have hb2' : Below wr.heap.size wr w2 := ⟨hb2.os, hb2.tape, hb2.output, hb2.size, hb2.block⟩; have hz2 := hb2'.size; have hrow2 := own_bytes hrow hb2'; have y2 : w2.cell? ⟨bb, off + k, none⟩ = some (.int .i64 n) := (hb2'.cell (p := ⟨bb, off + k, none⟩) hbw).trans hcell; have hbb2 : (⟨bb, off + k, none⟩ : Addr).block < w2.heap.size := Nat.lt_of_lt_of_le hbw hz2))
                all_goals
                  have HR : Hid (RpI w t l v3 (k + 1) (j + 2) (T ++ showB 99 n) w3) := ⟨by omega, hkl, by rw [List.length_append]; omega, by rw [← heq]; simp, by rw [str_cells, bs_mk, size_mk] at hown3; rw [List.length_append]; exact hown3, (hbel.trans (hb2'.mono hbs)).grown hgrow3 (by omega) fun b hb => (hrow.lt b hb).1⟩
                  clear hown3 hgrow3 hrow hrow2 hbel heq hb2 hb2' y2 y3 hcell
                  go_wp2
                  go_roundw
                  case rel => exact ⟨v3, k + 1, j + 2, _, rfl, by go_num, by go_num, HR.out⟩
                  case measure => simp [intOf]; omega
            · rw [List.drop_of_length_le (show l.length ≤ k by omega)] at heq
              have e1 : (([] : List Int).take 1).flatMap (showB (t[j + 1]'hk1)) = [] := rfl
              rw [e1, List.tail_nil, List.nil_append, ← List.drop_of_length_le (show l.length ≤ k by omega)] at heq
              clear e1
              rcases show_cases hsh with hd | hd | hd | hd | hd | hd | hd
              · clear hdk2 hsh
                have HR : Hid (RpI w t l ov k (j + 2) T wr) := ⟨by omega, hk, by omega, heq, hrow, hbel⟩
                go_wp2
                go_roundw
                case rel => exact ⟨ov, k, j + 2, _, rfl, rfl, by go_num, HR.out⟩
                case measure => simp [intOf]; omega
              · clear hdk2 hsh
                have HR : Hid (RpI w t l ov k (j + 2) T wr) := ⟨by omega, hk, by omega, heq, hrow, hbel⟩
                go_wp2
                go_roundw
                case rel => exact ⟨ov, k, j + 2, _, rfl, rfl, by go_num, HR.out⟩
                case measure => simp [intOf]; omega
              · clear hdk2 hsh
                have HR : Hid (RpI w t l ov k (j + 2) T wr) := ⟨by omega, hk, by omega, heq, hrow, hbel⟩
                go_wp2
                go_roundw
                case rel => exact ⟨ov, k, j + 2, _, rfl, rfl, by go_num, HR.out⟩
                case measure => simp [intOf]; omega
              · clear hdk2 hsh
                have HR : Hid (RpI w t l ov k (j + 2) T wr) := ⟨by omega, hk, by omega, heq, hrow, hbel⟩
                go_wp2
                go_roundw
                case rel => exact ⟨ov, k, j + 2, _, rfl, rfl, by go_num, HR.out⟩
                case measure => simp [intOf]; omega
              · clear hdk2 hsh
                have HR : Hid (RpI w t l ov k (j + 2) T wr) := ⟨by omega, hk, by omega, heq, hrow, hbel⟩
                go_wp2
                go_roundw
                case rel => exact ⟨ov, k, j + 2, _, rfl, rfl, by go_num, HR.out⟩
                case measure => simp [intOf]; omega
              · clear hdk2 hsh
                have HR : Hid (RpI w t l ov k (j + 2) T wr) := ⟨by omega, hk, by omega, heq, hrow, hbel⟩
                go_wp2
                go_roundw
                case rel => exact ⟨ov, k, j + 2, _, rfl, rfl, by go_num, HR.out⟩
                case measure => simp [intOf]; omega
              · clear hdk2 hsh
                have HR : Hid (RpI w t l ov k (j + 2) T wr) := ⟨by omega, hk, by omega, heq, hrow, hbel⟩
                go_wp2
                go_roundw
                case rel => exact ⟨ov, k, j + 2, _, rfl, rfl, by go_num, HR.out⟩
                case measure => simp [intOf]; omega
          · have hno := show_none (by simpa using hsh)
            obtain ⟨q1, q2, q3, q4, q5, q6, q7⟩ := hno
            rw [pg_other h37 (by simpa using hsh)] at heq
            have next : ∀ v' w3, w3.ownsRow w.heap.size 5 1 v' (T.length + 2) (Lib.byteCells T ++ [.int .u8 37, .int .u8 ((t[j + 1]'hk1).toNat : Int)]) → ((wr.alloc (.cells #[.int .u8 37, .int .u8 ((t[j + 1]'hk1).toNat : Int)] 5)).grownBy w3 ov.ownBlock) → Hid (RpI w t l v' k (j + 2) (T ++ [37, t[j + 1]'hk1]) w3) := fun v' w3 ho hg =>
              ⟨by omega, hk, by simp; omega, by rw [← heq]; simp, by simpa [Lib.byteCells] using ho, (hbel.alloc hbs _).grown hg (by simp; omega) fun b hb => (hrow.lt b hb).1⟩
            go_wp2_with (at_builtin; refine wpList_append_own _ rfl _ _ 70 rfl w.heap.size 5 ki (.int .u8 0) 1 1 Tryd.underlying70 khi khz khz1 khz2 rfl (by decide) ov T.length (Lib.byteCells T) rfl ?qrow ⟨wr.heap.size, 0, none⟩ 2 2 [.int .u8 37, .int .u8 ((t[j + 1]'hk1).toNat : Int)] rfl ?qc1 ?qc2 ?qc3 ?qc4 ?qc5 ?qc6 ?_)
            case qrow => exact own_bytes hrow (below_oneW _ _)
            case qc1 => rfl
            case qc2 => exact World.news_of_block (heap_alloc_new wr (.cells #[.int .u8 37, .int .u8 ((t[j + 1]'hk1).toNat : Int)] 5))
            case qc3 => intro u hu; simp at hu; rcases hu with rfl | rfl <;> rfl
            case qc4 => unfold maxLen; omega
            case qc5 => omega
            case qc6 => simp; omega
            intro v2 w3 hown3 hgrow3 _
            have HR := next v2 w3 hown3 hgrow3
            clear hown3 hgrow3 next hrow hbel heq
            go_wp2
            go_roundw
            case rel => exact ⟨v2, k, j + 2, _, rfl, rfl, by go_num, HR.out⟩
            case measure => simp [intOf]; omega
    · obtain rfl : j = t.size := by omega
      have heq' : T = printG (bs t) l := by
        rw [List.drop_of_length_le (show (bs t).length ≤ t.size by rw [← size_bs]; omega)] at heq
        rw [← heq]; simp [printG]
      have hcv := conv_own hrow
      rw [heq'] at hcv
      go_wp2
      go_ret
      exact ⟨rfl, hbel⟩
end Go.Proofs.YthmhbmikcdfkcaaDoor
