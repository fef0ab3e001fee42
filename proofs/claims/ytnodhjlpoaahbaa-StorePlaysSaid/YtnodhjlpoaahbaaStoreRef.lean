/-
  The walks of the reference's store: rows of a text and its bits, looked through from the first on.
-/
import Derived.Test.YtnodhjlpoaahbaaStoreAbs
namespace Go.Proofs.Ytnodhjlpoaahbaa
open Go.RowKit
theorem info_row : (Try.prog.info? 98).map (fun i => (i.zero, i.size, i.bytes)) = some (some (.agg #[.string ByteArray.empty, .int .u64 0]), 2, 24) := by kernel_rfl

def rowCells : List ByteArray → List Int → List Value
  | k :: ks, b :: bs => .string k :: .int .u64 b :: rowCells ks bs
  | _, _ => []
theorem rowCells_length : ∀ (ks : List ByteArray) (bs : List Int), bs.length = ks.length → (rowCells ks bs).length = ks.length * 2
  | [], [], _ => rfl
  | k :: ks, b :: bs, h => by simp only [rowCells, List.length_cons]; rw [rowCells_length ks bs (by simpa using h)]; omega
  | [], _ :: _, h => by simp at h
  | _ :: _, [], h => by simp at h
theorem rowCells_key : ∀ (ks : List ByteArray) (bs : List Int) (j : Nat), bs.length = ks.length → j < ks.length → (rowCells ks bs)[j * 2]? = some (.string (ks.getD j default))
  | k :: ks, b :: bs, 0, _, _ => by simp [rowCells]
  | k :: ks, b :: bs, j + 1, h, hj => by
    have := rowCells_key ks bs j (by simpa using h) (by simpa using hj)
    rw [show (j + 1) * 2 = j * 2 + 2 by omega]
    simpa [rowCells] using this
  | [], _, _, _, hj => by simp at hj
  | _ :: _, [], _, h, _ => by simp at h
theorem rowCells_bits : ∀ (ks : List ByteArray) (bs : List Int) (j : Nat), bs.length = ks.length → j < ks.length → (rowCells ks bs)[j * 2 + 1]? = some (.int .u64 (bs.getD j 0))
  | k :: ks, b :: bs, 0, _, _ => by simp [rowCells]
  | k :: ks, b :: bs, j + 1, h, hj => by
    have := rowCells_bits ks bs j (by simpa using h) (by simpa using hj)
    rw [show (j + 1) * 2 + 1 = j * 2 + 1 + 2 by omega]
    simpa [rowCells] using this
  | [], _, _, _, hj => by simp at hj
  | _ :: _, [], _, h, _ => by simp at h
theorem rowCells_set : ∀ (ks : List ByteArray) (bs : List Int) (j : Nat) (x : Int), bs.length = ks.length → (rowCells ks bs).set (j * 2 + 1) (.int .u64 x) = rowCells ks (bs.set j x)
  | [], [], j, x, _ => by simp [rowCells]
  | k :: ks, b :: bs, 0, x, _ => by simp [rowCells]
  | k :: ks, b :: bs, j + 1, x, h => by
    have := rowCells_set ks bs j x (by simpa using h)
    rw [show (j + 1) * 2 + 1 = j * 2 + 1 + 2 by omega]
    simp [rowCells, this]
  | [], _ :: _, _, _, h => by simp at h
  | _ :: _, [], _, _, h => by simp at h
theorem rowCells_more : ∀ (ks : List ByteArray) (bs : List Int) (k : ByteArray) (b : Int), bs.length = ks.length → rowCells (ks ++ [k]) (bs ++ [b]) = rowCells ks bs ++ [.string k, .int .u64 b]
  | [], [], k, b, _ => rfl
  | x :: ks, y :: bs, k, b, h => by simp only [List.cons_append, rowCells]; rw [rowCells_more ks bs k b (by simpa using h)]
  | [], _ :: _, _, _, h => by simp at h
  | _ :: _, [], _, _, h => by simp at h

/-- The reference's store at R. -/
structure RfAt (w : World) (n0 R : Nat) (rv : Value) (most : Int) (ks : List ByteArray) (bs : List Int) : Prop where
  blk : w.heap[R]? = some (.cells #[.int .i64 most, rv] 32 (0, 0))
  rows : w.ownsRow n0 98 2 rv ks.length (rowCells ks bs)
  lo : n0 ≤ R
  len : bs.length = ks.length
  few : ks.length ≤ 20000
  bd : most ≤ 20000

section
variable {w : World} {n0 R : Nat} {rv : Value} {most : Int} {ks : List ByteArray} {bs : List Int}
def rfp (R : Nat) (rv : Value) (k : Nat) : Prop := k = R ∨ rv.ownBlock = some k
theorem RfAt.kept {w' : World} (h : RfAt w n0 R rv most ks bs) (hs : ∀ k, k < w.heap.size → rfp R rv k → w'.heap[k]? = w.heap[k]?) : RfAt w' n0 R rv most ks bs where
  blk := by rw [hs R (blk_lt h.blk) (.inl rfl)]; exact h.blk
  rows := ownsRow_same h.rows fun k hk => hs k (ownsRow_lt h.rows hk) (.inr hk)
  lo := h.lo
  len := h.len
  few := h.few
  bd := h.bd
theorem RfAt.shape (h : RfAt w n0 R rv most ks bs) : ∃ ka kc, rv = .slice ka ks.length kc ∧ (0 < ks.length → ∃ g, ka = some ⟨g, 0, none⟩ ∧ ∀ j < ks.length, w.cell? ⟨g, j * 2, none⟩ = some (.string (ks.getD j default)) ∧ w.cell? ⟨g, j * 2 + 1, none⟩ = some (.int .u64 (bs.getD j 0))) := by
  rcases h.rows.2 with ⟨rfl, h0⟩ | ⟨g, cap, cur, rfl, _, hg, hn, hm, hs, htake⟩
  · exact ⟨none, 0, by rw [h0], fun hp => by omega⟩
  · refine ⟨_, cap, rfl, fun _ => ⟨g, rfl, fun j hj => ?_⟩⟩
    exact ⟨by rw [h.rows.cellAt (j * 2) (by omega)]; exact rowCells_key ks bs j h.len hj, by rw [h.rows.cellAt (j * 2 + 1) (by omega)]; exact rowCells_bits ks bs j h.len hj⟩

theorem pos_is {ks : List ByteArray} {key : ByteArray} {j : Nat} (hj : j < ks.length) (hk : ks.getD j default = key) (hb : ∀ i, i < j → ks.getD i default ≠ key) : posOf ks key = j := by
  have hm : key ∈ ks := by rw [← hk]; simp [List.getD, hj]
  obtain ⟨p1, p2⟩ := idx_at hm
  rcases Nat.lt_trichotomy (posOf ks key) j with h | h | h
  · exact absurd p2 (hb _ h)
  · exact h
  · exfalso
    have := List.not_of_lt_findIdx (p := fun x => decide (x = key)) (xs := ks) h
    simp [List.getD, hj] at hk
    simp [hk] at this
theorem met_no {ks : List ByteArray} {key : ByteArray} (hb : ∀ i, i < ks.length → ks.getD i default ≠ key) : metB ks key = false := by
  rw [Bool.eq_false_iff]
  intro h
  obtain ⟨p1, p2⟩ := idx_at (metB_iff.1 h)
  exact hb _ p1 p2
theorem met_yes {ks : List ByteArray} {key : ByteArray} {j : Nat} (hj : j < ks.length) (hk : ks.getD j default = key) : metB ks key = true := by
  rw [metB_iff, ← hk]; simp [List.getD, hj]

set_option maxRecDepth 100000 in
set_option maxHeartbeats 400000 in
theorem rf_find (key : ByteArray) (h : RfAt w n0 R rv most ks bs) :
    Calls Try.prog 32 #[.pointer (some ⟨R, 0, none⟩), .string key] w fun e w' => e = .returned (.tuple #[.int .i64 (findN ks key), .bool (findIs ks key)]) ∧ w = w' := by
  have hf := h.few
  obtain ⟨ka, kc, rfl, hk⟩ := h.shape
  have h1 : w.cell? ⟨R, 1, none⟩ = some (.slice ka ks.length kc) := cell_of_blk h.blk rfl
  go_enter Try.func32, Try.ntmps32
  go_wp2
  go_loop [6] (fun i => ∃ k : Nat, k ≤ ks.length ∧ i = .int .i64 k ∧ ∀ j, j < k → ks.getD j default ≠ key) (fun i => ks.length - (intOf i).toNat)
  case atStart => exact ⟨0, by omega, rfl, fun j h => by omega⟩
  case round =>
    obtain ⟨k, hkl, rfl, hne⟩ := hrel
    by_cases hlt : k < ks.length
    · obtain ⟨g, rfl, hc⟩ := hk (by omega)
      obtain ⟨c1, c2⟩ := hc k hlt
      by_cases he : ks.getD k default = key
      · have HN : Hid (findN ks key = k) := by unfold Hid findN; rw [if_pos (met_yes hlt he), pos_is hlt he hne]
        have HI : Hid (findIs ks key = true) := met_yes hlt he
        rw [he] at c1
        clear he hne hc c2
        go_wp2
        go_ret2
        exact ⟨ret_ib HN.out.symm HI.out.symm, rfl⟩
      · have he' := bytes_ne he
        have HNE : Hid (∀ j, j < k + 1 → ks.getD j default ≠ key) := by
          intro j hj
          by_cases e : j = k
          · subst e; exact he
          · exact hne j (by omega)
        clear hne hc c2 he
        generalize ks.getD k default = other at *
        go_wp2
        go_round
        case rel => exact ⟨k + 1, by omega, by go_num, HNE.out⟩
        case measure => simp [intOf]; omega
    · obtain rfl : k = ks.length := by omega
      have hm := met_no hne
      have HN : Hid (findN ks key = 0) := by unfold Hid findN; rw [hm]; rfl
      have HI : Hid (findIs ks key = false) := hm
      clear hne hm
      go_wp2
      go_ret2
      exact ⟨ret_ib HN.out.symm HI.out.symm, rfl⟩

set_option maxRecDepth 100000 in
set_option maxHeartbeats 400000 in
theorem rf_key (n : Int) (h : RfAt w n0 R rv most ks bs) :
    Calls Try.prog 35 #[.pointer (some ⟨R, 0, none⟩), .int .i64 n] w fun e w' => e = .returned (.tuple #[.string (keyV ks n), .int .i64 (noneE n ks.length)]) ∧ w = w' := by
  have hf := h.few
  have hl := h.len
  obtain ⟨ka, kc, rfl, hk⟩ := h.shape
  have h1 : w.cell? ⟨R, 1, none⟩ = some (.slice ka ks.length kc) := cell_of_blk h.blk rfl
  by_cases hn : inB n ks.length = true
  · have HV : Hid (keyV ks n = ks.getD n.toNat default) := by unfold Hid keyV; rw [if_pos hn]
    have HE : Hid (noneE n ks.length = 0) := by unfold Hid noneE; rw [if_pos hn]
    obtain ⟨p1, p2⟩ := inB_iff.1 hn
    obtain ⟨g, rfl, hc⟩ := hk (by omega)
    obtain ⟨c1, c2⟩ := hc n.toNat (by omega)
    have d1 : decide (n < 0) = false := by simp; omega
    have d2 : decide ((ks.length : Int) ≤ n) = false := by simp; omega
    clear hc hk hn hl
    generalize ks.getD n.toNat default = a at *
    go_enter Try.func35, Try.ntmps35
    go_wp2
    go_ret2
    exact ⟨ret_si HV.out.symm HE.out.symm, rfl⟩
  · have HV : Hid (keyV ks n = ByteArray.empty) := by unfold Hid keyV; rw [if_neg hn]
    have HE : Hid (noneE n ks.length = 46) := by unfold Hid noneE; rw [if_neg hn]
    clear h hl hk
    rcases inB_no hn with hn' | hn'
    all_goals
      clear hn
      go_enter Try.func35, Try.ntmps35
      go_wp2
      all_goals
        go_ret2
        exact ⟨ret_si HV.out.symm HE.out.symm, rfl⟩

set_option maxRecDepth 100000 in
set_option maxHeartbeats 400000 in
theorem rf_bits (n : Int) (h : RfAt w n0 R rv most ks bs) :
    Calls Try.prog 36 #[.pointer (some ⟨R, 0, none⟩), .int .i64 n] w fun e w' => e = .returned (.int .u64 (bitsV bs n)) ∧ w = w' := by
  have hf := h.few
  have hl := h.len
  obtain ⟨ka, kc, rfl, hk⟩ := h.shape
  have h1 : w.cell? ⟨R, 1, none⟩ = some (.slice ka ks.length kc) := cell_of_blk h.blk rfl
  by_cases hn : inB n ks.length = true
  · have HV : Hid (bitsV bs n = bs.getD n.toNat 0) := by unfold Hid bitsV; rw [hl, if_pos hn]
    obtain ⟨p1, p2⟩ := inB_iff.1 hn
    obtain ⟨g, rfl, hc⟩ := hk (by omega)
    obtain ⟨c1, c2⟩ := hc n.toNat (by omega)
    have d1 : decide (n < 0) = false := by simp; omega
    have d2 : decide ((ks.length : Int) ≤ n) = false := by simp; omega
    clear hc hk hn hl
    generalize bs.getD n.toNat 0 = a at *
    go_enter Try.func36, Try.ntmps36
    go_wp2
    go_ret
    exact ⟨ret_nat HV.out.symm, rfl⟩
  · have HV : Hid (bitsV bs n = 0) := by unfold Hid bitsV; rw [hl, if_neg hn]
    clear h hl hk
    rcases inB_no hn with hn' | hn'
    all_goals
      clear hn
      go_enter Try.func36, Try.ntmps36
      go_wp2
      all_goals
        go_ret
        exact ⟨ret_nat HV.out.symm, rfl⟩

set_option maxRecDepth 100000 in
set_option maxHeartbeats 1000000 in
theorem rf_mark (n b : Int) (h : RfAt w n0 R rv most ks bs) :
    Calls Try.prog 33 #[.pointer (some ⟨R, 0, none⟩), .int .i64 n, .int .u64 b] w fun e w' => e = .returned (.int .i64 (noneE n ks.length)) ∧
      RfAt w' n0 R rv most ks (setB bs n fun a => bits .or .u64 a b) ∧ Touch w w' (rfp R rv) := by
  have hf := h.few
  have hl := h.len
  obtain ⟨ka, kc, rfl, hk⟩ := h.shape
  have h1 : w.cell? ⟨R, 1, none⟩ = some (.slice ka ks.length kc) := cell_of_blk h.blk rfl
  by_cases hn : inB n ks.length = true
  · have HE : Hid (noneE n ks.length = 0) := by unfold Hid noneE; rw [if_pos hn]
    have HB : Hid (setB bs n (fun a => bits .or .u64 a b) = bs.set n.toNat (bits .or .u64 (bs.getD n.toNat 0) b)) := by unfold Hid setB; rw [hl, if_pos hn]
    obtain ⟨p1, p2⟩ := inB_iff.1 hn
    obtain ⟨g, rfl, hc⟩ := hk (by omega)
    obtain ⟨c1, c2⟩ := hc n.toNat (by omega)
    have hst := h.rows.stored (n.toNat * 2 + 1) (.int .u64 (bits .or .u64 (bs.getD n.toNat 0) b))
    rw [rowCells_set _ _ _ _ hl] at hst
    have hfr := h.rows.frozenAt (n.toNat * 2 + 1)
    have hne : R ≠ g := by obtain ⟨cur, hcur⟩ := ownsRow_blk h.rows rfl; exact blk_ne h.blk hcur (by decide)
    have HS : Hid (RfAt (w.setCell ⟨g, n.toNat * 2 + 1, none⟩ (.int .u64 (bits .or .u64 (bs.getD n.toNat 0) b))) n0 R (.slice (some ⟨g, 0, none⟩) ks.length kc) most ks (bs.set n.toNat (bits .or .u64 (bs.getD n.toNat 0) b))) := {
      blk := by rw [Below.heap_setCell _ _ _ _ hne]; exact h.blk
      rows := hst.1
      lo := h.lo
      len := by simpa using hl
      few := h.few
      bd := h.bd }
    have d1 : decide (n < 0) = false := by simp; omega
    have d2 : decide ((ks.length : Int) ≤ n) = false := by simp; omega
    clear hst hl hc hk hn c1
    generalize bs.getD n.toNat 0 = a at *
    go_enter Try.func33, Try.ntmps33
    go_wp2
    go_region
    all_goals
      go_wp2
      go_ret
      refine ⟨by rw [HE.out]; rfl, ?_, ?_⟩
      · rw [HB.out]; exact HS.out.kept fun _ _ _ => rfl
      · exact ((Touch.refl w _).setCell (.inl (.inr rfl)) _).drew
  · have HE : Hid (noneE n ks.length = 46) := by unfold Hid noneE; rw [if_neg hn]
    have HB : Hid (setB bs n (fun a => bits .or .u64 a b) = bs) := by unfold Hid setB; rw [hl, if_neg hn]
    have HH := Lib.hid h
    clear h hl hk
    rcases inB_no hn with hn' | hn'
    all_goals
      clear hn
      go_enter Try.func33, Try.ntmps33
      go_wp2
      all_goals
        go_ret
        exact ⟨by rw [HE.out]; rfl, by rw [HB.out]; exact HH.out, Touch.refl _ _⟩

set_option maxRecDepth 100000 in
set_option maxHeartbeats 1000000 in
theorem rf_clear (n b : Int) (h : RfAt w n0 R rv most ks bs) :
    Calls Try.prog 34 #[.pointer (some ⟨R, 0, none⟩), .int .i64 n, .int .u64 b] w fun e w' => e = .returned (.int .i64 (noneE n ks.length)) ∧
      RfAt w' n0 R rv most ks (setB bs n fun a => bits .andNot .u64 a b) ∧ Touch w w' (rfp R rv) := by
  have hf := h.few
  have hl := h.len
  obtain ⟨ka, kc, rfl, hk⟩ := h.shape
  have h1 : w.cell? ⟨R, 1, none⟩ = some (.slice ka ks.length kc) := cell_of_blk h.blk rfl
  by_cases hn : inB n ks.length = true
  · have HE : Hid (noneE n ks.length = 0) := by unfold Hid noneE; rw [if_pos hn]
    have HB : Hid (setB bs n (fun a => bits .andNot .u64 a b) = bs.set n.toNat (bits .andNot .u64 (bs.getD n.toNat 0) b)) := by unfold Hid setB; rw [hl, if_pos hn]
    obtain ⟨p1, p2⟩ := inB_iff.1 hn
    obtain ⟨g, rfl, hc⟩ := hk (by omega)
    obtain ⟨c1, c2⟩ := hc n.toNat (by omega)
    have hst := h.rows.stored (n.toNat * 2 + 1) (.int .u64 (bits .andNot .u64 (bs.getD n.toNat 0) b))
    rw [rowCells_set _ _ _ _ hl] at hst
    have hfr := h.rows.frozenAt (n.toNat * 2 + 1)
    have hne : R ≠ g := by obtain ⟨cur, hcur⟩ := ownsRow_blk h.rows rfl; exact blk_ne h.blk hcur (by decide)
    have HS : Hid (RfAt (w.setCell ⟨g, n.toNat * 2 + 1, none⟩ (.int .u64 (bits .andNot .u64 (bs.getD n.toNat 0) b))) n0 R (.slice (some ⟨g, 0, none⟩) ks.length kc) most ks (bs.set n.toNat (bits .andNot .u64 (bs.getD n.toNat 0) b))) := {
      blk := by rw [Below.heap_setCell _ _ _ _ hne]; exact h.blk
      rows := hst.1
      lo := h.lo
      len := by simpa using hl
      few := h.few
      bd := h.bd }
    have d1 : decide (n < 0) = false := by simp; omega
    have d2 : decide ((ks.length : Int) ≤ n) = false := by simp; omega
    clear hst hl hc hk hn c1
    generalize bs.getD n.toNat 0 = a at *
    go_enter Try.func34, Try.ntmps34
    go_wp2
    go_region
    all_goals
      go_wp2
      go_ret
      refine ⟨by rw [HE.out]; rfl, ?_, ?_⟩
      · rw [HB.out]; exact HS.out.kept fun _ _ _ => rfl
      · exact ((Touch.refl w _).setCell (.inl (.inr rfl)) _).drew
  · have HE : Hid (noneE n ks.length = 46) := by unfold Hid noneE; rw [if_neg hn]
    have HB : Hid (setB bs n (fun a => bits .andNot .u64 a b) = bs) := by unfold Hid setB; rw [hl, if_neg hn]
    have HH := Lib.hid h
    clear h hl hk
    rcases inB_no hn with hn' | hn'
    all_goals
      clear hn
      go_enter Try.func34, Try.ntmps34
      go_wp2
      all_goals
        go_ret
        exact ⟨by rw [HE.out]; rfl, by rw [HB.out]; exact HH.out, Touch.refl _ _⟩

theorem rows_some {w : World} {base : Nat} {e : TypeId} {v : Value} {n : Nat} {xs : List Value} (h : w.ownsRow base e 2 v (n + 1) xs) : ∃ g cap, v = .slice (some ⟨g, 0, none⟩) (n + 1) cap := by
  rcases h.2 with ⟨_, h0⟩ | ⟨g, cap, cur, rfl, _⟩
  · omega
  · exact ⟨g, cap, rfl⟩
set_option maxRecDepth 100000 in
set_option maxHeartbeats 1000000 in
theorem rf_put (key : ByteArray) (h : RfAt w n0 R rv most ks bs) :
    Calls Try.prog 31 #[.pointer (some ⟨R, 0, none⟩), .string key] w fun e w' =>
      e = .returned (.tuple #[.int .i64 (putN ks most key), .bool (putIs ks most key), .int .i64 (putE ks most key)]) ∧
      ∃ rv', RfAt w' n0 R rv' most (putK ks most key) (putB ks bs most key) ∧ Touch w w' (rfp R rv) ∧ ∀ k, rfp R rv' k → rfp R rv k ∨ w.heap.size ≤ k := by
  have hf := h.few
  have hl := h.len
  have HF := rf_find key h
  obtain ⟨ka, kc, rfl, hk⟩ := h.shape
  have c0 : w.cell? ⟨R, 0, none⟩ = some (.int .i64 most) := cell_of_blk h.blk rfl
  have c1 : w.cell? ⟨R, 1, none⟩ = some (.slice ka ks.length kc) := cell_of_blk h.blk rfl
  by_cases hm : metB ks key = true
  · have e1 : findN ks key = posOf ks key := by unfold findN; rw [if_pos hm]
    have e2 : findIs ks key = true := hm
    rw [e1, e2] at HF
    have HN : Hid (putN ks most key = posOf ks key) := by unfold Hid putN; rw [if_pos hm]
    have HI : Hid (putIs ks most key = false) := by unfold Hid putIs; rw [if_pos hm]
    have HE : Hid (putE ks most key = 0) := by unfold Hid putE; rw [if_pos hm]
    have HK : Hid (putK ks most key = ks) := by unfold Hid putK; rw [if_pos hm]
    have HB : Hid (putB ks bs most key = bs) := by unfold Hid putB; rw [if_pos hm]
    clear e1 e2 hm hl hk
    go_enter Try.func31, Try.ntmps31
    go_wp2_with fail
    refine HF.mono ?_; rintro e w1 ⟨rfl, rfl⟩
    go_wp2
    go_ret3
    exact ⟨by rw [HN.out, HI.out, HE.out]; rfl, _, by rw [HK.out, HB.out]; exact h, Touch.refl _ _, fun k hk => .inl hk⟩
  · have e2 : findIs ks key = false := Bool.eq_false_iff.2 hm
    rw [e2] at HF
    by_cases hu : (ks.length : Int) < most
    · have HN : Hid (putN ks most key = ks.length) := by unfold Hid putN; rw [if_neg hm, if_pos hu]
      have HI : Hid (putIs ks most key = true) := by unfold Hid putIs; rw [if_neg hm, decide_eq_true hu]
      have HE : Hid (putE ks most key = 0) := by unfold Hid putE; rw [if_neg hm, if_pos hu]
      have HK : Hid (putK ks most key = ks ++ [key]) := by unfold Hid putK; rw [if_neg hm, if_pos hu]
      have HB : Hid (putB ks bs most key = bs ++ [0]) := by unfold Hid putB; rw [if_neg hm, if_pos hu]
      have hbd := h.bd
      have hlo := h.lo
      have hR := blk_lt h.blk
      have HL := Lib.hid hl
      obtain ⟨ki, khi, khz0, khz1, khz2⟩ := info_parts info_row
      clear e2 hm hl hk
      go_enter Try.func31, Try.ntmps31
      go_wp2_with fail
      refine HF.mono ?_; rintro e w1 ⟨rfl, rfl⟩
      go_wp2
      go_quiet (fail)
      go_wp2_with (at_builtin; refine wpList_append3 _ rfl (.tmp 31) (.tmp 34) 30 rfl n0 98 ki (.agg #[.string ByteArray.empty, .int .u64 0]) 2 24 Try.underlying30 khi khz0 khz1 khz2 rfl (by decide) (.slice ka ks.length kc) ks.length (rowCells ks bs) rfl ?k0 ⟨w.heap.size, 0, none⟩ 1 1 [.string key, .int .u64 0] rfl rfl ?k1 ?k2 ?k3 ?k4 ?k5 ?kK)
      case k0 => exact h.rows.alloc _
      case k1 => exact cell_two_new _ _ _ _
      case k2 => intro u hu; simp at hu; rcases hu with rfl | rfl <;> rfl
      case k3 => unfold maxLen; omega
      case k4 => omega
      case k5 => simp; omega
      case kK =>
        intro kv' w2 hown2 hgrow2 hkb
        obtain ⟨kg, kc', rfl⟩ := rows_some hown2
        have keep2 : ∀ k, k < w.heap.size → some k ≠ (Value.slice ka ks.length kc).ownBlock → w2.heap[k]? = w.heap[k]? := fun k hk hne =>
          (hgrow2.block k (by simp; omega) hne).trans (Below.heap_alloc _ _ _ hk)
        have nR : some R ≠ (Value.slice ka ks.length kc).ownBlock := fun e => by obtain ⟨cur, hcur⟩ := ownsRow_blk h.rows e.symm; exact blk_ne hcur h.blk (by decide) rfl
        have blk2 : w2.heap[R]? = _ := (keep2 R hR nR).trans h.blk
        have nkg : kg ≠ R := by obtain ⟨cur, hcur⟩ := ownsRow_blk hown2 rfl; exact blk_ne hcur blk2 (by decide)
        have e0 : w2.cell? ⟨R, 1, none⟩ = some (.slice ka ks.length kc) := cell_of_blk blk2 rfl
        have e1 : w2.frozen? ⟨R, 1, none⟩ = false := free_of_blk blk2
        have hkb' : (Value.slice ka ks.length kc).ownBlock = some kg ∨ w.heap.size ≤ kg := by
          rcases hkb with e | e
          · exact .inl e.symm
          · right; simp [Value.ownBlock] at e; omega
        have HT : Hid (Touch w (w2.setCell ⟨R, 1, none⟩ (.slice (some ⟨kg, 0, none⟩) (ks.length + 1) kc')) (rfp R (.slice ka ks.length kc))) :=
          (((Touch.refl w _).alloc (.cells #[.string key, .int .u64 0] 98)).grown ⟨hgrow2.os, hgrow2.tape, hgrow2.output, hgrow2.size, hgrow2.block⟩ fun k hk => .inl (.inr hk)).setCell (.inl (.inl rfl)) _
        have HR : Hid (RfAt (w2.setCell ⟨R, 1, none⟩ (.slice (some ⟨kg, 0, none⟩) (ks.length + 1) kc')) n0 R (.slice (some ⟨kg, 0, none⟩) (ks.length + 1) kc') most (ks ++ [key]) (bs ++ [0])) := {
          blk := by rw [blk_set blk2]; simp
          rows := by
            refine ownsRow_same ?_ fun k hk => Below.heap_setCell _ _ _ _ (by simp [Value.ownBlock] at hk; subst hk; exact nkg)
            rw [rowCells_more _ _ _ _ HL.out]; simpa using hown2
          lo := hlo
          len := by simpa using HL.out
          few := by simp; omega
          bd := hbd }
        have HKb := Lib.hid hkb'
        clear keep2 hgrow2 hown2 hkb hkb' nR
        go_wp2
        go_ret3
        refine ⟨by rw [HN.out, HI.out, HE.out]; exact ret_ibi (by omega) rfl rfl, _, by rw [HK.out, HB.out]; exact HR.out.kept fun _ _ _ => rfl, HT.out.of_world rfl rfl rfl rfl, ?_⟩
        rintro k (rfl | hk)
        · exact .inl (.inl rfl)
        · simp [Value.ownBlock] at hk; subst hk; exact HKb.out.imp (fun e => .inr e) id
    · have HN : Hid (putN ks most key = 0) := by unfold Hid putN; rw [if_neg hm, if_neg hu]
      have HI : Hid (putIs ks most key = false) := by unfold Hid putIs; rw [if_neg hm, decide_eq_false hu]
      have HE : Hid (putE ks most key = 45) := by unfold Hid putE; rw [if_neg hm, if_neg hu]
      have HK : Hid (putK ks most key = ks) := by unfold Hid putK; rw [if_neg hm, if_neg hu]
      have HB : Hid (putB ks bs most key = bs) := by unfold Hid putB; rw [if_neg hm, if_neg hu]
      have hu' : most ≤ ks.length := by omega
      clear e2 hm hl hk
      go_enter Try.func31, Try.ntmps31
      go_wp2_with fail
      refine HF.mono ?_; rintro e w1 ⟨rfl, rfl⟩
      go_wp2
      go_quiet (fail)
      go_wp2
      go_ret3
      exact ⟨by rw [HN.out, HI.out, HE.out]; rfl, _, by rw [HK.out, HB.out]; exact h.kept fun _ _ _ => rfl, (Touch.refl _ _).drewN _, fun k hk => .inl hk⟩
end
end Go.Proofs.Ytnodhjlpoaahbaa
