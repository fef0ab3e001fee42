/-
  Layer 13's Put as the document has it, on trees.
-/
import Derived.Test.YtiflenddalmfaaaCpW
namespace Go.Proofs.Ytiflenddalmfaaa
open Go.RowKit

theorem firstP_lt {x : List Int} : ∀ {q : List (List Int)} {j : Nat}, j < firstP x q → lessP x (q.getD j []) = false
  | [], j, h => by simp [firstP] at h
  | y :: q, j, h => by
    unfold firstP at h
    cases hl : lessP x y with
    | true => rw [hl] at h; simp at h
    | false =>
      rw [hl] at h
      simp only [Bool.false_eq_true, if_false] at h
      cases j with
      | zero => exact hl
      | succ j => exact firstP_lt (q := q) (j := j) (by omega)
theorem firstP_at {x : List Int} : ∀ {q : List (List Int)} {j : Nat}, firstP x q = j → j < q.length → lessP x (q.getD j []) = true
  | [], j, _, h => by simp at h
  | y :: q, j, h, hj => by
    unfold firstP at h
    cases hl : lessP x y with
    | true =>
      rw [hl] at h
      simp only [if_true] at h
      subst h
      exact hl
    | false =>
      rw [hl] at h
      simp only [Bool.false_eq_true, if_false] at h
      subst h
      exact firstP_at (q := q) rfl (by simpa using hj)
/-- Where it is put. -/
def plP (x : List Int) (q : List (List Int)) (sorted : Bool) : Nat := if sorted = true then firstP x q else q.length
theorem plP_le (x : List Int) (q : List (List Int)) (sorted : Bool) : plP x q sorted ≤ q.length := by
  unfold plP
  split
  · exact firstP_le x q
  · exact Nat.le_refl _
theorem pl_test {x : List Int} {q : List (List Int)} {sorted : Bool} {i : Nat} (hi : i < q.length) : (bif bif sorted then !(decide (plP x q sorted < i)) else false then lessP x (q.getD i []) else false) = decide (plP x q sorted = i) := by
  unfold plP
  cases sorted with
  | false =>
    simp only [cond_false, Bool.false_eq_true, if_false]
    symm
    rw [decide_eq_false_iff_not]; omega
  | true =>
    simp only [cond_true, if_true]
    by_cases h : firstP x q < i
    · have : ¬ firstP x q = i := by omega
      simp [h, this]
    · by_cases he : firstP x q = i
      · rw [firstP_at he hi]
        simp [he]
      · rw [firstP_lt (x := x) (q := q) (j := i) (by omega)]
        simp [he]
/-- What has been put together so far. -/
def oP (x : List Int) (q : List (List Int)) (p i : Nat) : List (List Int) := if p < i then putAt (q.take i) p x else q.take i
theorem take_at {q : List (List Int)} {i : Nat} (hi : i < q.length) : q.take (i + 1) = q.take i ++ [q.getD i []] := by
  rw [List.take_add_one, List.getElem?_eq_getElem hi]; simp [List.getD, hi]
theorem oP_here {x : List Int} {q : List (List Int)} {i : Nat} (hi : i < q.length) : oP x q i (i + 1) = oP x q i i ++ [x] ++ [q.getD i []] := by
  unfold oP putAt
  rw [if_pos (by omega), if_neg (by omega), take_at hi]
  have hl : (q.take i).length = i := by simp; omega
  rw [List.take_append_of_le_length (by omega), List.drop_append_of_le_length (by omega), List.take_of_length_le (by omega), List.drop_eq_nil_of_le (by omega)]
  simp
theorem oP_else {x : List Int} {q : List (List Int)} {p i : Nat} (hi : i < q.length) (hp : p ≠ i) : oP x q p (i + 1) = oP x q p i ++ [q.getD i []] := by
  unfold oP putAt
  have hl : (q.take i).length = i := by simp; omega
  by_cases h : p < i
  · rw [if_pos (by omega), if_pos h, take_at hi, List.take_append_of_le_length (by omega), List.drop_append_of_le_length (by omega)]
    simp
  · rw [if_neg (by omega), if_neg h, take_at hi]
theorem oP_len {x : List Int} {q : List (List Int)} {p i : Nat} (hi : i ≤ q.length) : (oP x q p i).length ≤ i + 1 := by
  unfold oP putAt
  have hl : (q.take i).length = i := by simp; omega
  split
  · rw [List.length_append, List.length_cons, List.length_take, List.length_drop, hl]; omega
  · omega
theorem oP_end {x : List Int} {q : List (List Int)} {p : Nat} (hp : p ≤ q.length) : (p < q.length → oP x q p q.length = putAt q p x) ∧ (¬ p < q.length → oP x q p q.length ++ [x] = putAt q p x) := by
  unfold oP
  rw [List.take_length]
  refine ⟨fun h => by rw [if_pos h], fun h => ?_⟩
  rw [if_neg h]
  have : p = q.length := by omega
  subst this
  unfold putAt
  rw [List.take_length, List.drop_length]
theorem fitM_wf (fs : List D.Type) (m : List Int) : WfM (fitM fs m) := by
  intro x hx
  unfold fitM at hx
  obtain ⟨i, hi, rfl⟩ := List.getElem_of_mem hx
  simp only [List.getElem_zipWith]
  exact fit_wf _ _ _
theorem le_bad {room sh e : Int} {fs : List D.Type} {q : List (List Int)} {m : List Int} {sorted : Bool} (h : putE room fs q m = e) (he : e ≠ 0) :
    VV.le (.tup [.agg [.sc (.int .i64 0), .nl], .sc (.int .i64 e)]) (.tup [encChan (putSh room fs q m sh) (putQ room fs q m sorted), intV (putE room fs q m)]) := by
  rw [putSh_bad h he, putQ_bad h he, h]
  exact VV.le_tup ⟨VV.le_agg ⟨VV.le_refl _, VV.le_nil, trivial⟩, VV.le_refl _, trivial⟩
theorem rput_eq (sh' e : Int) (q' : List (List Int)) (sh : Int) (q : List (List Int)) (sorted : Bool) (x : List Int) (J : St → Prop) : ((fnCtx Try.prog tb shCp annPut true Try.f7 [] (.tup [encChan sh' q', intV e])).loop [1, 1, 1, 1, 1, 1, 1, 0, 1, 0] J).goal (stP2a sh q sorted x) =
    ((fnCtx Try.prog tb shCp annPut true Try.f7 [] (.tup [encChan sh' q', intV e])).loop [1, 1, 1, 1, 1, 1, 1, 0, 1, 0] J).goal (stP2 sh q sorted x [] false 0) :=
  (rput2a_raw sh' e q' sh q sorted x J).trans (rput2_raw sh' e q' sh q sorted x [] false 0 J).symm
theorem room_for {l i n : Nat} (h1 : l ≤ i + 1) (h2 : i ≤ n) (h3 : (n + 3) * 24 ≤ 140737488355328) : (l + 1) * 24 ≤ 140737488355328 ∧ (i < n → (l + 1 + 1) * 24 ≤ 140737488355328) := by omega
set_option maxHeartbeats 1000000 in
theorem rput_spec (room sh : Int) (sorted : Bool) {fs : List D.Type} {q : List (List Int)} {m : List Int} (h2 : WfQ q) (hq1 : (q.length + 3) * 24 ≤ 140737488355328) (hm8 : (m.length + 1) * 8 ≤ 140737488355328) :
    VSpec Try.prog 7 [] [encShape room fs, encChan sh q, encM true m, boolV sorted] [] (.tup [encChan (putSh room fs q m sh) (putQ room fs q m sorted), intV (putE room fs q m)]) := by
  refine vspec_raw tb_ok mixed Try.func7 (by kernel_rfl) rfl (rput_raw _ _ _ room sh fs q m sorted) ⟨fun hne => ⟨trivial, le_bad ?_ (by decide)⟩, fun heq => ?_⟩
  · unfold putE
    rw [if_pos]
    have := bne_iff_ne.1 hne
    omega
  have hl : m.length = fs.length := by
    have := (bne_eq_false_iff_eq).1 heq
    omega
  refine SatC.own 5 10 1 (rowsM []) rfl ?_
  refine loop_raw tb_ok mixed (fun g st => ∃ i : Nat, i ≤ m.length ∧ g = m.length - i ∧ (∀ j, j < i → typeP (fs.getD j default) = true) ∧ st = stP1 room sh fs q m sorted ((fitM fs m).take i) i) (by kernel_rfl) (by kernel_rfl) ⟨_, Up.of ⟨0, Nat.zero_le _, rfl, fun j hj => by omega, rfl⟩⟩ ?_
  rintro g st ⟨i, hi, rfl, hty, rfl⟩
  have hfl : (fitM fs m).length = m.length := fitM_len hl
  have htl : ((fitM fs m).take i).length = i := by simp; omega
  refine Asks.raw (rput1_raw _ _ _ room sh fs q m sorted ((fitM fs m).take i) i _) ⟨fun hlt => ?_, fun hge => ?_⟩
  · have hlt' : i < m.length := by
      have := of_decide_eq_true hlt
      omega
    have hto : (i : Int).toNat = i := by omega
    rw [hto, wrap_id (by omega) (by omega), show ((i : Int) + 1) = ((i + 1 : Nat) : Int) by omega]
    refine ⟨⟨by omega, by omega⟩, typeP (fs.getD i default), rtype_spec _, fun hbad => ⟨trivial, le_bad ?_ (by decide)⟩, fun hok => ⟨⟨by omega, by omega⟩, ⟨by omega, by omega⟩, fitP (fs.getD i default).Bits (fs.getD i default).Signed (m.getD i 0), rfit_spec _ _, by rw [htl]; omega, m.length - (i + 1), by omega, ?_⟩⟩
    · unfold putE
      rw [if_neg (by omega), if_pos]
      rw [List.all_eq_false]
      exact ⟨fs.getD i default, getD_mem (by omega), by simpa using hbad⟩
    · have hok' : typeP (fs.getD i default) = true := by simpa using hok
      have hs : (fitM fs m).take (i + 1) = (fitM fs m).take i ++ [fitP (fs.getD i default).Bits (fs.getD i default).Signed (m.getD i 0)] := by
        rw [List.take_add_one, List.getElem?_eq_getElem (by omega)]
        unfold fitM
        simp only [List.getElem_zipWith]
        simp [List.getD, hlt', show i < fs.length by omega]
      refine Up.mk (l' := [(2, encM true m), (3, boolV sorted), (4, .bp 0 0), (5, .bp 1 0), (8, .bp 2 0), (10, .ow 3 0 ((fitM fs m).take (i + 1)).length), (11, intV ((i + 1 : Nat) : Int))])
        (hs' := [.box [intV room, encTs fs], .box [intV sh, encQ q], .box [intV 0, .nl], .arr true 0 ((fitM fs m).take (i + 1)).length 1 (rowsM ((fitM fs m).take (i + 1)))]) ?_ ?_ ⟨i + 1, by omega, rfl, fun j hj => ?_, rfl⟩
      · rw [hs]
        exact ⟨⟨rfl, VV.le_refl _⟩, ⟨rfl, VV.le_refl _⟩, ⟨rfl, VV.le_refl _⟩, ⟨rfl, VV.le_refl _⟩, ⟨rfl, VV.le_refl _⟩, ⟨rfl, VV.le_eq (by simp)⟩, ⟨rfl, VV.le_refl _⟩, trivial⟩
      · rw [hs]
        exact ⟨Ob.le_refl _, Ob.le_refl _, Ob.le_refl _, le_pushF (fun n => [intV n]) 0 ((fitM fs m).take i) _ (fun j hj => cond_lt hj) ((cond_ge (Nat.le_refl _)).trans (by simp only [Nat.sub_self]; rfl)), trivial⟩
      · by_cases hj' : j < i
        · exact hty j hj'
        · obtain rfl : j = i := by omega
          exact hok'
  have hge' : m.length ≤ i := by
    have := of_decide_eq_false hge
    omega
  obtain rfl : i = m.length := by omega
  have hall : fs.all typeP = true := by
    rw [List.all_eq_true]
    intro t ht
    obtain ⟨j, hj, rfl⟩ := List.mem_iff_getElem.1 ht
    have := hty j (by omega)
    simpa [List.getD, hj] using this
  rw [List.take_of_length_le (Nat.le_of_eq hfl)]
  refine ⟨fun hfull => ⟨trivial, le_bad ?_ (by decide)⟩, fun hroom => ?_⟩
  · have := of_decide_eq_true hfull
    unfold putE
    rw [if_neg (by omega), if_neg (by rw [hall]; simp), if_pos (by omega)]
  have hE : putE room fs q m = 0 := by
    have := of_decide_eq_false hroom
    unfold putE
    rw [if_neg (by omega), if_neg (by rw [hall]; simp), if_neg (by omega)]
  have hSh : putSh room fs q m sh = sh := by unfold putSh; rw [if_pos hE]
  have hQ : putQ room fs q m sorted = putAt q (plP (fitM fs m) q sorted) (fitM fs m) := by unfold putQ; rw [if_pos hE]; rfl
  rw [hSh, hQ, hE]
  have hxw := fitM_wf fs m
  generalize fitM fs m = x at hxw
  have hp := plP_le x q sorted
  have hpt : ∀ i, i < q.length → _ := fun i hi => pl_test (x := x) (q := q) (sorted := sorted) (i := i) hi
  generalize plP x q sorted = p at hp hpt
  have hen := oP_end (x := x) (q := q) hp
  refine loop_raw tb_ok mixed (fun g st => ∃ i : Nat, i ≤ q.length ∧ g = q.length - i ∧ ((i = 0 ∧ st = stP2a sh q sorted x) ∨ st = stP2 sh q sorted x (oP x q p i) (decide (p < i)) i)) (by kernel_rfl) (by kernel_rfl)
    ⟨_, Up.cv (Cv.pub (k := 3) (t := 10) (id := 2) rfl rfl) (Up.cv (Cv.ownBox 3 1 1 (rowsQ []) rfl rfl) (Up.of ⟨0, Nat.zero_le _, rfl, .inl ⟨rfl, rfl⟩⟩))⟩ ?_
  rintro g st ⟨i, hi, rfl, hst⟩
  have hol := room_for (oP_len (x := x) (q := q) (p := p) hi) hi hq1
  have round : ∀ (J : St → Prop), (∀ g', g' < q.length - i → ∀ st', (∃ i' : Nat, i' ≤ q.length ∧ g' = q.length - i' ∧ ((i' = 0 ∧ st' = stP2a sh q sorted x) ∨ st' = stP2 sh q sorted x (oP x q p i') (decide (p < i')) i')) → ∀ st, Up (fun s => s = st') st → J st) →
      ((fnCtx Try.prog tb shCp annPut true Try.f7 [] (.tup [encChan sh (putAt q p x), intV 0])).loop [1, 1, 1, 1, 1, 1, 1, 0, 1, 0] J).goal (stP2 sh q sorted x (oP x q p i) (decide (p < i)) i) := by
    intro J hJ
    refine (Asks.raw (rput2_raw sh 0 (putAt q p x) sh q sorted x (oP x q p i) (decide (p < i)) i J) ⟨fun hlt => ?_, fun hge => ⟨fun hnd => ⟨hol.1, trivial, ?_⟩, fun hd => ⟨trivial, ?_⟩⟩⟩).out
    · have hlt' : i < q.length := by
        have := of_decide_eq_true hlt
        omega
      have hto : (i : Int).toNat = i := by omega
      rw [hto, wrap_id (by omega) (by omega), show ((i : Int) + 1) = ((i + 1 : Nat) : Int) by omega]
      have hy := h2 (q.getD i []) (getD_mem hlt')
      refine ⟨⟨by omega, by omega⟩, lessP x (q.getD i []), rless_spec hxw hy, fun ht => ⟨hol.1, ⟨by omega, by omega⟩, hol.2 hlt', ?_⟩, fun hf => ⟨⟨by omega, by omega⟩, hol.1, ?_⟩⟩
      · obtain rfl : p = i := of_decide_eq_true ((hpt i hlt').symm.trans ht)
        refine hJ (q.length - (p + 1)) (by omega) _ ⟨p + 1, by omega, rfl, .inr rfl⟩ _ (Up.mk (l' := [(3, boolV sorted), (5, .bp 0 0), (8, .bp 1 0), (10, encM true x), (13, .bp 2 0), (14, boolV (decide (p < p + 1))), (15, intV ((p + 1 : Nat) : Int))])
          (hs' := [.box [intV sh, encQ q], .box [intV 0, .nl], .box [intV sh, .ow 3 0 (oP x q p (p + 1)).length], .arr true 0 (oP x q p (p + 1)).length 1 (rowsQ (oP x q p (p + 1)))]) ?_ ?_ rfl)
        · have : decide (p < p + 1) = true := by simp
          rw [this]; exact leT_refl _
        · rw [oP_here hlt']
          exact ⟨Ob.le_refl _, Ob.le_refl _, Ob.le_box ⟨VV.le_refl _, VV.le_eq (by simp), trivial⟩, le_push2F (fun m => [encM true m]) [] (oP x q p p) x (q.getD p []) (fun i hi => (cond_lt (Nat.lt_succ_of_lt hi)).trans (cond_lt hi)) ((cond_lt (Nat.lt_succ_self _)).trans ((cond_ge (Nat.le_refl _)).trans (by simp only [Nat.sub_self]; rfl))) ((cond_ge (Nat.le_refl _)).trans (by simp only [Nat.sub_self]; rfl)), trivial⟩
      · have hpi : p ≠ i := of_decide_eq_false ((hpt i hlt').symm.trans hf)
        refine hJ (q.length - (i + 1)) (by omega) _ ⟨i + 1, by omega, rfl, .inr rfl⟩ _ (Up.mk (l' := [(3, boolV sorted), (5, .bp 0 0), (8, .bp 1 0), (10, encM true x), (13, .bp 2 0), (14, boolV (decide (p < i + 1))), (15, intV ((i + 1 : Nat) : Int))])
          (hs' := [.box [intV sh, encQ q], .box [intV 0, .nl], .box [intV sh, .ow 3 0 (oP x q p (i + 1)).length], .arr true 0 (oP x q p (i + 1)).length 1 (rowsQ (oP x q p (i + 1)))]) ?_ ?_ rfl)
        · have : decide (p < i + 1) = decide (p < i) := by
            by_cases h : p < i
            · simp [h]; omega
            · have : ¬ p < i + 1 := by omega
              simp [h, this]
          rw [this]; exact leT_refl _
        · rw [oP_else hlt' hpi]
          exact ⟨Ob.le_refl _, Ob.le_refl _, Ob.le_box ⟨VV.le_refl _, VV.le_eq (by simp), trivial⟩, le_pushF (fun m => [encM true m]) [] (oP x q p i) (q.getD i []) (fun j hj => cond_lt hj) ((cond_ge (Nat.le_refl _)).trans (by simp only [Nat.sub_self]; rfl)), trivial⟩
    · have hge' : q.length ≤ i := by
        have := of_decide_eq_false hge
        omega
      obtain rfl : i = q.length := by omega
      have hnp : ¬ p < q.length := by simpa using hnd
      rw [← hen.2 hnp]
      exact VV.le_tup ⟨VV.le_agg ⟨VV.le_refl _, le_rows (fun m => [encM true m]) [] (oP x q p q.length) x (fun i => List.take 1 (List.drop (i * 1) [encM true x])) rfl, trivial⟩, VV.le_refl _, trivial⟩
    · have hge' : q.length ≤ i := by
        have := of_decide_eq_false hge
        omega
      obtain rfl : i = q.length := by omega
      have hnp : p < q.length := by simpa using hd
      rw [← hen.1 hnp]
      exact VV.le_refl _
  have fin : ∀ g', g' < q.length - i → ∀ st', (∃ i' : Nat, i' ≤ q.length ∧ g' = q.length - i' ∧ ((i' = 0 ∧ st' = stP2a sh q sorted x) ∨ st' = stP2 sh q sorted x (oP x q p i') (decide (p < i')) i')) → ∀ st, Up (fun s => s = st') st →
      ∃ g', g' < q.length - i ∧ Up (fun st => ∃ i : Nat, i ≤ q.length ∧ g' = q.length - i ∧ ((i = 0 ∧ st = stP2a sh q sorted x) ∨ st = stP2 sh q sorted x (oP x q p i) (decide (p < i)) i)) st := by
    rintro g' hg st' hst st ⟨st1, hcv, rfl⟩
    exact ⟨g', hg, st1, hcv, hst⟩
  rcases hst with ⟨rfl, rfl⟩ | rfl
  · refine ⟨?_⟩
    rw [rput_eq]
    exact round _ fin
  · exact ⟨round _ fin⟩
end Go.Proofs.Ytiflenddalmfaaa
