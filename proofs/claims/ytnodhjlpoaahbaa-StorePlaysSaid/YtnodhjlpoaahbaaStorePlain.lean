/-
  The plain law of layer 18's table: open addressing, one slot a text. No program in sight.
-/
import Derived.WalkKit
namespace Go.Proofs.Ytnodhjlpoaahbaa
open Go.RowKit

/-- The hash, after k bytes. -/
def hashTo (s : ByteArray) : Nat → Int
  | 0 => 14695981039346656037
  | k + 1 => IntKind.u64.wrap (bits .xor .u64 (hashTo s k) (IntKind.u64.wrap ((if h : k < s.size then s[k].toNat else 0 : Nat) : Int)) * 1099511628211)
def hashN (s : ByteArray) : Nat := (hashTo s s.size).toNat
theorem hashTo_bd (s : ByteArray) (k : Nat) : 0 ≤ hashTo s k ∧ hashTo s k ≤ 18446744073709551615 := by
  cases k with
  | zero => simp [hashTo]
  | succ k => simp only [hashTo, IntKind.wrap_u64]; omega
theorem hashN_eq (s : ByteArray) : ((hashN s : Nat) : Int) = hashTo s s.size := by have := hashTo_bd s s.size; unfold hashN; omega
theorem hashN_lt (s : ByteArray) : hashN s ≤ 18446744073709551615 := by have := hashTo_bd s s.size; unfold hashN; omega

/-- The table sl is right for the first m of the texts ks. -/
structure Tab (ks : List ByteArray) (m : Nat) (sl : List Nat) : Prop where
  pos : 0 < sl.length
  le : ∀ j, sl.getD j 0 ≤ m
  few : sl.countP (· != 0) ≤ m
  find : ∀ i, i < m → ∃ d, sl.getD ((hashN (ks.getD i default) + d) % sl.length) 0 = i + 1 ∧ ∀ d' < d, sl.getD ((hashN (ks.getD i default) + d') % sl.length) 0 ≠ 0

/-- From the hash on, d steps: nothing empty and no such text before. -/
structure Probed (ks : List ByteArray) (sl : List Nat) (key : ByteArray) (d : Nat) : Prop where
  full : ∀ d' < d, sl.getD ((hashN key + d') % sl.length) 0 ≠ 0
  other : ∀ d' < d, ks.getD (sl.getD ((hashN key + d') % sl.length) 0 - 1) default ≠ key

/-- The place where a text lies, or would lie. -/
def SlotAt (ks : List ByteArray) (sl : List Nat) (key : ByteArray) (i : Nat) : Prop :=
  ∃ d, i = (hashN key + d) % sl.length ∧ Probed ks sl key d ∧ (sl.getD i 0 = 0 ∨ ks.getD (sl.getD i 0 - 1) default = key)

theorem SlotAt.lt {ks : List ByteArray} {sl : List Nat} {key : ByteArray} {i : Nat} (h : SlotAt ks sl key i) (hp : 0 < sl.length) : i < sl.length := by
  obtain ⟨d, rfl, _⟩ := h; exact Nat.mod_lt _ hp

theorem Probed.zero (ks : List ByteArray) (sl : List Nat) (key : ByteArray) : Probed ks sl key 0 := ⟨fun _ h => absurd h (by omega), fun _ h => absurd h (by omega)⟩
theorem Probed.succ {ks : List ByteArray} {sl : List Nat} {key : ByteArray} {d : Nat} (h : Probed ks sl key d) (h1 : sl.getD ((hashN key + d) % sl.length) 0 ≠ 0)
    (h2 : ks.getD (sl.getD ((hashN key + d) % sl.length) 0 - 1) default ≠ key) : Probed ks sl key (d + 1) := by
  constructor
  · intro d' hd
    by_cases e : d' = d
    · subst e; exact h1
    · exact h.full d' (by omega)
  · intro d' hd
    by_cases e : d' = d
    · subst e; exact h2
    · exact h.other d' (by omega)

/-- There is an empty place: within a round. -/
theorem Tab.room {ks : List ByteArray} {m : Nat} {sl : List Nat} (h : Tab ks m sl) (hm : m < sl.length) (c : Nat) : ∃ d < sl.length, sl.getD ((c + d) % sl.length) 0 = 0 := by
  have h1 : ∃ j < sl.length, sl.getD j 0 = 0 := by
    apply Classical.byContradiction
    intro hn
    have hall : ∀ x ∈ sl, (x != 0) = true := by
      intro x hx
      obtain ⟨j, hj, rfl⟩ := List.getElem_of_mem hx
      have : ¬ sl.getD j 0 = 0 := fun e => hn ⟨j, hj, e⟩
      simpa [List.getD, hj] using this
    have := List.countP_eq_length.2 hall
    have := h.few
    omega
  obtain ⟨j, hj, h0⟩ := h1
  have hp := h.pos
  have hc := Nat.mod_lt c hp
  have ha := Nat.mod_add_div c sl.length
  by_cases hle : c % sl.length ≤ j
  · refine ⟨j - c % sl.length, by omega, ?_⟩
    have e : c + (j - c % sl.length) = j + sl.length * (c / sl.length) := by omega
    rw [e, Nat.add_mul_mod_self_left, Nat.mod_eq_of_lt hj]; exact h0
  · refine ⟨j + sl.length - c % sl.length, by omega, ?_⟩
    have e : c + (j + sl.length - c % sl.length) = j + sl.length * (c / sl.length + 1) := by rw [Nat.mul_add]; omega
    rw [e, Nat.add_mul_mod_self_left, Nat.mod_eq_of_lt hj]; exact h0

/-- Where a text lies, reckoned. -/
def probe (ks : List ByteArray) (sl : List Nat) (key : ByteArray) : Nat → Nat → Nat
  | 0, i => i
  | f + 1, i => if sl.getD i 0 = 0 ∨ ks.getD (sl.getD i 0 - 1) default = key then i else probe ks sl key f ((i + 1) % sl.length)
def slotP (ks : List ByteArray) (sl : List Nat) (key : ByteArray) : Nat := probe ks sl key sl.length (hashN key % sl.length)

theorem SlotAt.one {ks : List ByteArray} {sl : List Nat} {key : ByteArray} {i j : Nat} (h : SlotAt ks sl key i) (h' : SlotAt ks sl key j) : i = j := by
  obtain ⟨d, rfl, hp, hk⟩ := h
  obtain ⟨e, rfl, hp', hk'⟩ := h'
  rcases Nat.lt_trichotomy d e with hlt | rfl | hgt
  · rcases hk with h0 | h0
    · exact absurd h0 (hp'.full d hlt)
    · exact absurd h0 (hp'.other d hlt)
  · rfl
  · rcases hk' with h0 | h0
    · exact absurd h0 (hp.full e hgt)
    · exact absurd h0 (hp.other e hgt)

theorem probe_at {ks : List ByteArray} {sl : List Nat} {key : ByteArray} (dz : Nat) (hz : sl.getD ((hashN key + dz) % sl.length) 0 = 0) :
    ∀ (f d : Nat), dz < d + f → Probed ks sl key d → SlotAt ks sl key (probe ks sl key f ((hashN key + d) % sl.length)) := by
  intro f
  induction f with
  | zero =>
    intro d hd hp
    exact absurd hz (hp.full dz (by omega))
  | succ f ih =>
    intro d hd hp
    unfold probe
    split
    · rename_i h; exact ⟨d, rfl, hp, h⟩
    · rename_i h
      have h1 : ¬ sl.getD ((hashN key + d) % sl.length) 0 = 0 := fun e => h (.inl e)
      have h2 : ¬ ks.getD (sl.getD ((hashN key + d) % sl.length) 0 - 1) default = key := fun e => h (.inr e)
      rw [Nat.mod_add_mod]
      exact ih (d + 1) (by omega) (hp.succ h1 h2)

theorem Tab.slotP {ks : List ByteArray} {m : Nat} {sl : List Nat} (h : Tab ks m sl) (hm : m < sl.length) (key : ByteArray) : SlotAt ks sl key (slotP ks sl key) := by
  obtain ⟨dz, hlt, hz⟩ := h.room hm (hashN key)
  exact probe_at dz hz sl.length 0 (by omega) (Probed.zero _ _ _)

/-- What is found is right: a place that is not empty holds that very text; an empty one says that it was not met. -/
theorem SlotAt.none {ks : List ByteArray} {m : Nat} {sl : List Nat} {key : ByteArray} {i : Nat} (h : SlotAt ks sl key i) (t : Tab ks m sl) (h0 : sl.getD i 0 = 0) :
    ∀ j < m, ks.getD j default ≠ key := by
  intro j hj he
  obtain ⟨d, rfl, hp, _⟩ := h
  obtain ⟨e, he1, he2⟩ := t.find j hj
  rw [he] at he1 he2
  rcases Nat.lt_trichotomy d e with hlt | rfl | hgt
  · exact he2 d hlt h0
  · omega
  · exact hp.other e hgt (by rw [he1]; simpa using he)
theorem SlotAt.some {ks : List ByteArray} {m : Nat} {sl : List Nat} {key : ByteArray} {i : Nat} (h : SlotAt ks sl key i) (t : Tab ks m sl) (h0 : sl.getD i 0 ≠ 0) :
    ∃ j < m, sl.getD i 0 = j + 1 ∧ ks.getD j default = key := by
  obtain ⟨d, _, _, hk⟩ := h
  have := t.le i
  exact ⟨sl.getD i 0 - 1, by omega, by omega, hk.resolve_left h0⟩

theorem getD_set {l : List Nat} {i j x : Nat} (hi : i < l.length) : (l.set i x).getD j 0 = if i = j then x else l.getD j 0 := by
  simp only [List.getD, List.getElem?_set]
  by_cases h : i = j
  · subst h; simp [hi]
  · simp [h]

theorem countP_set (l : List Nat) (i x : Nat) (h0 : l.getD i 0 = 0) : (l.set i x).countP (· != 0) ≤ l.countP (· != 0) + 1 := by
  induction l generalizing i with
  | nil => simp
  | cons a l ih =>
    cases i with
    | zero =>
      simp only [List.getD_cons_zero] at h0
      subst h0
      simp only [List.set_cons_zero, List.countP_cons]
      split <;> simp
    | succ i =>
      have := ih i (by simpa using h0)
      simp only [List.set_cons_succ, List.countP_cons]
      omega

/-- A text is put into an empty place: the next number. -/
theorem Tab.put {ks : List ByteArray} {m : Nat} {sl : List Nat} {i : Nat} (t : Tab ks m sl) (h : SlotAt ks sl (ks.getD m default) i) (h0 : sl.getD i 0 = 0) : Tab ks (m + 1) (sl.set i (m + 1)) := by
  have hi := h.lt t.pos
  refine ⟨by simpa using t.pos, ?_, ?_, ?_⟩
  · intro j
    rw [getD_set hi]
    have := t.le j
    split <;> omega
  · have h1 := countP_set sl i (m + 1) h0
    have := t.few
    omega
  · intro j hj
    rw [List.length_set]
    by_cases e : j = m
    · subst e
      obtain ⟨d, rfl, hp, _⟩ := h
      refine ⟨d, by rw [getD_set hi, if_pos rfl], ?_⟩
      intro d' hd
      rw [getD_set hi]
      split
      · omega
      · exact hp.full d' hd
    · obtain ⟨d, h1, h2⟩ := t.find j (by omega)
      refine ⟨d, ?_, ?_⟩
      · rw [getD_set hi, if_neg]
        · exact h1
        · rintro rfl; omega
      · intro d' hd
        rw [getD_set hi]
        split
        · omega
        · exact h2 d' hd

/-- The table of as many texts does not ask for texts behind them. -/
theorem Tab.more {ks : List ByteArray} {m : Nat} {sl : List Nat} (t : Tab ks m sl) (hm : m ≤ ks.length) (xs : List ByteArray) : Tab (ks ++ xs) m sl := by
  refine ⟨t.pos, t.le, t.few, ?_⟩
  intro i hi
  have e : (ks ++ xs).getD i default = ks.getD i default := by simp [List.getD, List.getElem?_append_left (show i < ks.length by omega)]
  rw [e]; exact t.find i hi

theorem SlotAt.more {ks : List ByteArray} {m : Nat} {sl : List Nat} {key : ByteArray} {i : Nat} (h : SlotAt ks sl key i) (t : Tab ks m sl) (hm : m ≤ ks.length) (h0 : sl.getD i 0 = 0) (xs : List ByteArray) :
    SlotAt (ks ++ xs) sl key i := by
  obtain ⟨d, rfl, hp, _⟩ := h
  refine ⟨d, rfl, ⟨hp.full, ?_⟩, .inl h0⟩
  intro d' hd
  have h1 := hp.other d' hd
  have h2 := hp.full d' hd
  have h3 := t.le ((hashN key + d') % sl.length)
  have e : (ks ++ xs).getD (sl.getD ((hashN key + d') % sl.length) 0 - 1) default = ks.getD (sl.getD ((hashN key + d') % sl.length) 0 - 1) default := by
    simp only [List.getD] at *
    rw [List.getElem?_append_left (by omega)]
  rw [e]; exact h1

theorem Tab.empty (ks : List ByteArray) (n : Nat) (hn : 0 < n) : Tab ks 0 (List.replicate n 0) := by
  refine ⟨by simpa using hn, ?_, ?_, fun i hi => absurd hi (by omega)⟩
  · intro j; simp only [List.getD, List.getElem?_replicate]; split <;> simp
  · simp [List.countP_replicate]

end Go.Proofs.Ytnodhjlpoaahbaa
