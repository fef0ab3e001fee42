/-
  Layer 18's store as a list of texts and their bits: what each call answers, and what the store is then.
-/
import Derived.Test.YtnodhjlpoaahbaaStorePut
namespace Go.Proofs.Ytnodhjlpoaahbaa
open Go.RowKit

/-- A store lies at B, with its texts and bits; F: the blocks that it owns. -/
def Sto (w : World) (n0 B : Nat) (most : Int) (ks : List ByteArray) (bs : List Int) (F : Nat → Prop) : Prop :=
  ∃ kv bv sb sl, StAt w n0 B kv bv sb most ks bs sl ∧ F = fp B kv bv sb

section
variable {w : World} {n0 B : Nat} {most : Int} {ks : List ByteArray} {bs : List Int} {F : Nat → Prop}
theorem Sto.kept {w' : World} (h : Sto w n0 B most ks bs F) (hs : ∀ k, k < w.heap.size → F k → w'.heap[k]? = w.heap[k]?) : Sto w' n0 B most ks bs F := by
  obtain ⟨kv, bv, sb, sl, h1, rfl⟩ := h
  exact ⟨kv, bv, sb, sl, h1.kept hs, rfl⟩
theorem Sto.drewN (h : Sto w n0 B most ks bs F) (n : Nat) : Sto (w.drewN n) n0 B most ks bs F := h.kept fun _ _ _ => rfl
theorem Sto.lt (h : Sto w n0 B most ks bs F) {k : Nat} (hk : F k) : k < w.heap.size := by
  obtain ⟨kv, bv, sb, sl, h1, rfl⟩ := h
  rcases hk with rfl | rfl | hk | hk
  · exact blk_lt h1.blk
  · exact blk_lt h1.slots
  · exact ownsRow_lt h1.keys hk
  · exact ownsRow_lt h1.bits hk
theorem Sto.ge (h : Sto w n0 B most ks bs F) {k : Nat} (hk : F k) : n0 ≤ k := by
  obtain ⟨kv, bv, sb, sl, h1, rfl⟩ := h
  rcases hk with rfl | rfl | hk | hk
  · exact h1.lo.1
  · exact h1.lo.2
  · exact (h1.keys.lt _ hk).1
  · exact (h1.bits.lt _ hk).1
theorem Sto.len (h : Sto w n0 B most ks bs F) : bs.length = ks.length := by obtain ⟨kv, bv, sb, sl, h1, rfl⟩ := h; exact h1.len
theorem Sto.under (h : Sto w n0 B most ks bs F) : (ks.length : Int) ≤ most := by obtain ⟨kv, bv, sb, sl, h1, rfl⟩ := h; exact h1.under
theorem Sto.nodup (h : Sto w n0 B most ks bs F) : ks.Nodup := by obtain ⟨kv, bv, sb, sl, h1, rfl⟩ := h; exact h1.nodup
theorem Sto.few (h : Sto w n0 B most ks bs F) : ks.length ≤ 20000 := by obtain ⟨kv, bv, sb, sl, h1, rfl⟩ := h; exact h1.few

instance decEqBytes : DecidableEq ByteArray := fun a b => decidable_of_iff (a.data = b.data) ⟨fun h => ByteArray.ext h, fun h => by rw [h]⟩
/-- Was it met? -/
def metB (ks : List ByteArray) (key : ByteArray) : Bool := ks.any fun x => decide (x = key)
def posOf (ks : List ByteArray) (key : ByteArray) : Nat := ks.findIdx fun x => decide (x = key)
theorem metB_iff {ks : List ByteArray} {key : ByteArray} : metB ks key = true ↔ key ∈ ks := by simp [metB]
theorem metB_no {ks : List ByteArray} {key : ByteArray} : ¬ metB ks key = true ↔ key ∉ ks := by rw [metB_iff]
def putN (ks : List ByteArray) (most : Int) (key : ByteArray) : Int := if metB ks key then posOf ks key else if (ks.length : Int) < most then ks.length else 0
def putIs (ks : List ByteArray) (most : Int) (key : ByteArray) : Bool := if metB ks key then false else decide ((ks.length : Int) < most)
def putE (ks : List ByteArray) (most : Int) (key : ByteArray) : Int := if metB ks key then 0 else if (ks.length : Int) < most then 0 else 45
def putK (ks : List ByteArray) (most : Int) (key : ByteArray) : List ByteArray := if metB ks key then ks else if (ks.length : Int) < most then ks ++ [key] else ks
def putB (ks : List ByteArray) (bs : List Int) (most : Int) (key : ByteArray) : List Int := if metB ks key then bs else if (ks.length : Int) < most then bs ++ [0] else bs

theorem idx_at {ks : List ByteArray} {key : ByteArray} (h : key ∈ ks) : posOf ks key < ks.length ∧ ks.getD (posOf ks key) default = key := by
  have h1 : posOf ks key < ks.length := List.findIdx_lt_length_of_exists ⟨key, h, by simp⟩
  have h2 := List.findIdx_getElem (p := fun x => decide (x = key)) (w := h1)
  refine ⟨h1, ?_⟩
  have h3 : ks[posOf ks key] = key := of_decide_eq_true h2
  simp [List.getD, h1, h3]

theorem sto_put (key : ByteArray) (hkey : key.size ≤ maxLen) (h : Sto w n0 B most ks bs F) :
    Calls Try.prog 14 #[.pointer (some ⟨B, 0, none⟩), .string key] w fun e w' =>
      e = .returned (.tuple #[.int .i64 (putN ks most key), .bool (putIs ks most key), .int .i64 (putE ks most key)]) ∧
      ∃ F', Sto w' n0 B most (putK ks most key) (putB ks bs most key) F' ∧ Touch w w' F ∧ ∀ k, F' k → F k ∨ w.heap.size ≤ k := by
  have hs := h
  obtain ⟨kv, bv, sb, sl, h1, rfl⟩ := h
  by_cases hm : metB ks key = true
  · obtain ⟨hl, hk⟩ := idx_at (metB_iff.1 hm)
    refine (put_old key hkey h1 _ hl hk).mono fun e w' ⟨he, n, hw⟩ => ⟨?_, fp B kv bv sb, ?_, ?_, fun k hk => .inl hk⟩
    · rw [he]; simp only [putN, putIs, putE, if_pos hm]
    · subst hw; simp only [putK, putB, if_pos hm]; exact hs.drewN n
    · subst hw; exact (Touch.refl w _).drewN n
  · by_cases hf : (ks.length : Int) < most
    · refine (put_new key hkey h1 (metB_no.1 hm) hf).mono fun e w' ⟨he, kv', bv', sb', sl', h2, ht, hF⟩ => ⟨?_, fp B kv' bv' sb', ?_, ht, hF⟩
      · rw [he]; simp only [putN, putIs, putE, if_neg hm, if_pos hf, decide_eq_true hf]
      · simp only [putK, putB, if_neg hm, if_pos hf]; exact ⟨kv', bv', sb', sl', h2, rfl⟩
    · have hu := h1.under
      refine (put_full key hkey h1 (metB_no.1 hm) (by omega)).mono fun e w' ⟨he, n, hw⟩ => ⟨?_, fp B kv bv sb, ?_, ?_, fun k hk => .inl hk⟩
      · rw [he]; simp only [putN, putIs, putE, if_neg hm, if_neg hf, decide_eq_false hf]
      · subst hw; simp only [putK, putB, if_neg hm, if_neg hf]; exact hs.drewN n
      · subst hw; exact (Touch.refl w _).drewN n

def findN (ks : List ByteArray) (key : ByteArray) : Int := if metB ks key then posOf ks key else 0
def findIs (ks : List ByteArray) (key : ByteArray) : Bool := metB ks key
theorem sto_find (key : ByteArray) (hkey : key.size ≤ maxLen) (h : Sto w n0 B most ks bs F) :
    Calls Try.prog 16 #[.pointer (some ⟨B, 0, none⟩), .string key] w fun e w' =>
      e = .returned (.tuple #[.int .i64 (findN ks key), .bool (findIs ks key)]) ∧ ∃ n, w' = w.drewN n := by
  obtain ⟨kv, bv, sb, sl, h1, rfl⟩ := h
  by_cases hm : metB ks key = true
  · obtain ⟨hl, hk⟩ := idx_at (metB_iff.1 hm)
    exact (find_yes key hkey h1 _ hl hk).mono fun e w' ⟨he, hw⟩ => ⟨by rw [he]; simp [findN, findIs, hm], hw⟩
  · exact (find_no key hkey h1 (metB_no.1 hm)).mono fun e w' ⟨he, hw⟩ => ⟨by rw [he]; simp [findN, findIs, Bool.eq_false_iff.2 hm], hw⟩

def keyV (ks : List ByteArray) (n : Int) : ByteArray := if inB n ks.length then ks.getD n.toNat default else ByteArray.empty
def noneE (n : Int) (l : Nat) : Int := if inB n l then 0 else 46
def bitsV (bs : List Int) (n : Int) : Int := if inB n bs.length then bs.getD n.toNat 0 else 0
def setB (bs : List Int) (n : Int) (f : Int → Int) : List Int := if inB n bs.length then bs.set n.toNat (f (bs.getD n.toNat 0)) else bs
theorem inB_iff {n : Int} {l : Nat} : inB n l = true ↔ 0 ≤ n ∧ n < l := by unfold inB; simp
theorem inB_nat {n : Int} {l : Nat} (h : inB n l = true) : ∃ j : Nat, n = j ∧ j < l := by
  obtain ⟨h1, h2⟩ := inB_iff.1 h
  exact ⟨n.toNat, by omega, by omega⟩
theorem inB_no {n : Int} {l : Nat} (h : ¬ inB n l = true) : n < 0 ∨ (l : Int) ≤ n := by
  rw [inB_iff] at h; omega
theorem sto_key (n : Int) (h : Sto w n0 B most ks bs F) :
    Calls Try.prog 15 #[.pointer (some ⟨B, 0, none⟩), .int .i64 n] w fun e w' => e = .returned (.tuple #[.string (keyV ks n), .int .i64 (noneE n ks.length)]) ∧ w = w' := by
  obtain ⟨kv, bv, sb, sl, h1, rfl⟩ := h
  by_cases hn : inB n ks.length = true
  · have e1 : keyV ks n = ks.getD n.toNat default := by unfold keyV; rw [if_pos hn]
    have e2 : noneE n ks.length = 0 := by unfold noneE; rw [if_pos hn]
    rw [e1, e2]
    obtain ⟨j, rfl, hj⟩ := inB_nat hn
    exact key_yes j hj h1
  · have e1 : keyV ks n = ByteArray.empty := by unfold keyV; rw [if_neg hn]
    have e2 : noneE n ks.length = 46 := by unfold noneE; rw [if_neg hn]
    rw [e1, e2]
    exact key_no n (inB_no hn) h1
theorem sto_bits (n : Int) (h : Sto w n0 B most ks bs F) :
    Calls Try.prog 19 #[.pointer (some ⟨B, 0, none⟩), .int .i64 n] w fun e w' => e = .returned (.int .u64 (bitsV bs n)) ∧ w = w' := by
  obtain ⟨kv, bv, sb, sl, h1, rfl⟩ := h
  by_cases hn : inB n bs.length = true
  · have e1 : bitsV bs n = bs.getD n.toNat 0 := by unfold bitsV; rw [if_pos hn]
    rw [e1]
    obtain ⟨j, rfl, hj⟩ := inB_nat hn
    exact bits_yes j (by have := h1.len; omega) h1
  · have e1 : bitsV bs n = 0 := by unfold bitsV; rw [if_neg hn]
    rw [e1]
    exact bits_no n (by have := h1.len; have := inB_no hn; omega) h1
theorem sto_len (h : Sto w n0 B most ks bs F) :
    Calls Try.prog 13 #[.pointer (some ⟨B, 0, none⟩)] w fun e w' => e = .returned (.int .i64 ks.length) ∧ w = w' := by
  obtain ⟨kv, bv, sb, sl, h1, rfl⟩ := h
  exact len_calls h1
theorem sto_mark (n b : Int) (h : Sto w n0 B most ks bs F) :
    Calls Try.prog 17 #[.pointer (some ⟨B, 0, none⟩), .int .i64 n, .int .u64 b] w fun e w' => e = .returned (.int .i64 (noneE n ks.length)) ∧
      Sto w' n0 B most ks (setB bs n fun a => bits .or .u64 a b) F ∧ Touch w w' F := by
  have hs := h
  obtain ⟨kv, bv, sb, sl, h1, rfl⟩ := h
  have hl := h1.len
  by_cases hn : inB n bs.length = true
  · have e1 : setB bs n (fun a => bits .or .u64 a b) = bs.set n.toNat (bits .or .u64 (bs.getD n.toNat 0) b) := by unfold setB; rw [if_pos hn]
    have e2 : noneE n ks.length = 0 := by unfold noneE; rw [← hl, if_pos hn]
    rw [e1, e2]
    obtain ⟨j, rfl, hj⟩ := inB_nat hn
    exact (mark_yes j (by omega) b h1).mono fun e w' ⟨he, h2, ht⟩ => ⟨he, ⟨kv, bv, sb, sl, h2, rfl⟩, ht⟩
  · have e1 : setB bs n (fun a => bits .or .u64 a b) = bs := by unfold setB; rw [if_neg hn]
    have e2 : noneE n ks.length = 46 := by unfold noneE; rw [← hl, if_neg hn]
    rw [e1, e2]
    exact (mark_no n b (by have := inB_no hn; omega) h1).mono fun e w' ⟨he, hw⟩ => by
      subst hw; exact ⟨he, hs.kept fun k hk _ => Below.heap_alloc _ _ _ hk, (Touch.refl w _).alloc _⟩
theorem sto_clear (n b : Int) (h : Sto w n0 B most ks bs F) :
    Calls Try.prog 18 #[.pointer (some ⟨B, 0, none⟩), .int .i64 n, .int .u64 b] w fun e w' => e = .returned (.int .i64 (noneE n ks.length)) ∧
      Sto w' n0 B most ks (setB bs n fun a => bits .andNot .u64 a b) F ∧ Touch w w' F := by
  have hs := h
  obtain ⟨kv, bv, sb, sl, h1, rfl⟩ := h
  have hl := h1.len
  by_cases hn : inB n bs.length = true
  · have e1 : setB bs n (fun a => bits .andNot .u64 a b) = bs.set n.toNat (bits .andNot .u64 (bs.getD n.toNat 0) b) := by unfold setB; rw [if_pos hn]
    have e2 : noneE n ks.length = 0 := by unfold noneE; rw [← hl, if_pos hn]
    rw [e1, e2]
    obtain ⟨j, rfl, hj⟩ := inB_nat hn
    exact (clear_yes j (by omega) b h1).mono fun e w' ⟨he, h2, ht⟩ => ⟨he, ⟨kv, bv, sb, sl, h2, rfl⟩, ht⟩
  · have e1 : setB bs n (fun a => bits .andNot .u64 a b) = bs := by unfold setB; rw [if_neg hn]
    have e2 : noneE n ks.length = 46 := by unfold noneE; rw [← hl, if_neg hn]
    rw [e1, e2]
    exact (clear_no n b (by have := inB_no hn; omega) h1).mono fun e w' ⟨he, hw⟩ => by
      subst hw; exact ⟨he, hs.kept fun k hk _ => Below.heap_alloc _ _ _ hk, (Touch.refl w _).alloc _⟩
theorem sto_new (most : Int) (w : World) (h1 : 1 ≤ most) (h2 : most ≤ 20000) :
    Calls Try.prog 10 #[.int .i64 most] w fun e w' => e = .returned (.tuple #[.pointer (some ⟨w.heap.size + 1, 0, none⟩), .int .i64 0]) ∧ Below w.heap.size w w' ∧
      ∃ F, Sto w' w.heap.size (w.heap.size + 1) most [] [] F :=
  (new_yes most w h1 h2).mono fun _ _ ⟨he, hb, hs⟩ => ⟨he, hb, _, _, _, _, _, hs, rfl⟩
end

set_option maxRecDepth 100000 in
set_option maxHeartbeats 1000000 in
/-- The document's example. -/
theorem shown18 (w : World) : Calls Try.prog 9 #[] w fun e w' => e = .returned (.bool true) ∧ Below w.heap.size w w' := by
  go_enter Try.func9, Try.ntmps9
  go_wp2_with fail
  refine (sto_new 2 _ (by decide) (by decide)).mono ?_; rintro e w1 ⟨rfl, hb1, F1, hs1⟩
  go_wp2_with fail
  refine (sto_put ⟨#[97]⟩ (by decide) hs1).mono ?_; rintro e w2 ⟨rfl, F2, hs2, ht2, hf2⟩
  rw [show putN [] 2 ⟨#[97]⟩ = 0 by decide, show putIs [] 2 ⟨#[97]⟩ = true by decide, show putE [] 2 ⟨#[97]⟩ = 0 by decide]
  rw [show putK [] 2 ⟨#[97]⟩ = [⟨#[97]⟩] by decide, show putB [] [] 2 ⟨#[97]⟩ = [0] by decide] at hs2
  go_wp2_with fail
  refine (sto_put ⟨#[98]⟩ (by decide) hs2).mono ?_; rintro e w3 ⟨rfl, F3, hs3, ht3, hf3⟩
  rw [show putN [⟨#[97]⟩] 2 ⟨#[98]⟩ = 1 by decide, show putIs [⟨#[97]⟩] 2 ⟨#[98]⟩ = true by decide, show putE [⟨#[97]⟩] 2 ⟨#[98]⟩ = 0 by decide]
  rw [show putK [⟨#[97]⟩] 2 ⟨#[98]⟩ = [⟨#[97]⟩, ⟨#[98]⟩] by decide, show putB [⟨#[97]⟩] [0] 2 ⟨#[98]⟩ = [0, 0] by decide] at hs3
  go_wp2_with fail
  refine (sto_put ⟨#[97]⟩ (by decide) hs3).mono ?_; rintro e w4 ⟨rfl, F4, hs4, ht4, hf4⟩
  rw [show putN [⟨#[97]⟩, ⟨#[98]⟩] 2 ⟨#[97]⟩ = 0 by decide, show putIs [⟨#[97]⟩, ⟨#[98]⟩] 2 ⟨#[97]⟩ = false by decide, show putE [⟨#[97]⟩, ⟨#[98]⟩] 2 ⟨#[97]⟩ = 0 by decide]
  rw [show putK [⟨#[97]⟩, ⟨#[98]⟩] 2 ⟨#[97]⟩ = [⟨#[97]⟩, ⟨#[98]⟩] by decide, show putB [⟨#[97]⟩, ⟨#[98]⟩] [0, 0] 2 ⟨#[97]⟩ = [0, 0] by decide] at hs4
  go_wp2_with fail
  refine (sto_put ⟨#[99]⟩ (by decide) hs4).mono ?_; rintro e w5 ⟨rfl, F5, hs5, ht5, hf5⟩
  rw [show putN [⟨#[97]⟩, ⟨#[98]⟩] 2 ⟨#[99]⟩ = 0 by decide, show putIs [⟨#[97]⟩, ⟨#[98]⟩] 2 ⟨#[99]⟩ = false by decide, show putE [⟨#[97]⟩, ⟨#[98]⟩] 2 ⟨#[99]⟩ = 45 by decide]
  rw [show putK [⟨#[97]⟩, ⟨#[98]⟩] 2 ⟨#[99]⟩ = [⟨#[97]⟩, ⟨#[98]⟩] by decide, show putB [⟨#[97]⟩, ⟨#[98]⟩] [0, 0] 2 ⟨#[99]⟩ = [0, 0] by decide] at hs5
  go_wp2_with fail
  refine (sto_mark 1 6 hs5).mono ?_; rintro e w6 ⟨rfl, hs6, ht6⟩
  rw [show setB [0, 0] 1 (fun a => bits .or .u64 a 6) = [0, 6] by decide] at hs6
  go_wp2_with fail
  refine (sto_clear 1 2 hs6).mono ?_; rintro e w7 ⟨rfl, hs7, ht7⟩
  rw [show setB [0, 6] 1 (fun a => bits .andNot .u64 a 2) = [0, 4] by decide] at hs7
  go_wp2_with fail
  refine (sto_bits 1 hs7).mono ?_; rintro e w8 ⟨rfl, rfl⟩
  rw [show bitsV [0, 4] 1 = 4 by decide]
  go_wp2_with fail
  refine (sto_key 2 hs7).mono ?_; rintro e w8 ⟨rfl, rfl⟩
  rw [show noneE 2 (List.length (α := ByteArray) [⟨#[97]⟩, ⟨#[98]⟩]) = 46 by decide]
  go_wp2
  go_ret
  refine ⟨rfl, ?_⟩
  have b2 := ht2.below hb1.size fun k hk => hs1.ge hk
  have b3 := ht3.below (Nat.le_trans hb1.size b2.size) fun k hk => hs2.ge hk
  have b4 := ht4.below (Nat.le_trans hb1.size (Nat.le_trans b2.size b3.size)) fun k hk => hs3.ge hk
  have b5 := ht5.below (Nat.le_trans hb1.size (Nat.le_trans b2.size (Nat.le_trans b3.size b4.size))) fun k hk => hs4.ge hk
  have s5 := Nat.le_trans hb1.size (Nat.le_trans b2.size (Nat.le_trans b3.size (Nat.le_trans b4.size b5.size)))
  have b6 := ht6.below s5 fun k hk => hs5.ge hk
  have b7 := ht7.below (Nat.le_trans s5 b6.size) fun k hk => hs6.ge hk
  exact (((((hb1.trans b2).trans b3).trans b4).trans b5).trans b6).trans b7
end Go.Proofs.Ytnodhjlpoaahbaa
