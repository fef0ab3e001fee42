/-
  What searches come to, as text: the plain law. No program in this text.
-/
import Derived.Test.YtfhdgccpngdnaaaDoorTrW
import Derived.Lib.ParseIntBTie
import Derived.Lib.SplitLaws
import Derived.Lib.IndexBytes
namespace Go.Proofs.YtfhdgccpngdnaaaDoor
open Go.RowKit

abbrev By := List UInt8
/-! ### Texts in pieces -/
def pieces (c : UInt8) : By → List By
  | [] => [[]]
  | b :: l => if b = c then [] :: pieces c l else
    match pieces c l with
    | [] => []
    | p :: ps => (b :: p) :: ps
def unp (c : UInt8) : List By → By
  | [] => []
  | [a] => a
  | a :: b :: r => a ++ c :: unp c (b :: r)
theorem pieces_ne (c : UInt8) : ∀ l, pieces c l ≠ []
  | [] => by simp [pieces]
  | b :: l => by
    have ih := pieces_ne c l
    unfold pieces
    split
    · simp
    · split
      · rename_i h; exact absurd h ih
      · simp
theorem pieces_none {c : UInt8} : ∀ {l : By}, c ∉ l → pieces c l = [l]
  | [], _ => rfl
  | b :: l, h => by
    have hb : b ≠ c := fun e => h (by simp [e])
    have hl : c ∉ l := fun e => h (List.mem_cons_of_mem _ e)
    unfold pieces
    rw [if_neg hb, pieces_none hl]
theorem pieces_cut {c : UInt8} {r : By} : ∀ {a : By}, c ∉ a → pieces c (a ++ c :: r) = a :: pieces c r
  | [], _ => by simp [pieces]
  | b :: a, h => by
    have hb : b ≠ c := fun e => h (by simp [e])
    have hl : c ∉ a := fun e => h (List.mem_cons_of_mem _ e)
    show (if b = c then [] :: pieces c (a ++ c :: r) else match pieces c (a ++ c :: r) with | [] => [] | p :: ps => (b :: p) :: ps) = _
    rw [if_neg hb, pieces_cut hl]
theorem unp_pieces (c : UInt8) : ∀ l, unp c (pieces c l) = l
  | [] => rfl
  | b :: l => by
    have ih := unp_pieces c l
    have hn := pieces_ne c l
    unfold pieces
    split
    · rename_i h
      subst h
      cases hp : pieces b l with
      | nil => exact absurd hp hn
      | cons p ps =>
        rw [hp] at ih
        show ([] : By) ++ b :: unp b (p :: ps) = _
        rw [ih]; rfl
    · cases hp : pieces c l with
      | nil => exact absurd hp hn
      | cons p ps =>
        rw [hp] at ih
        simp only
        cases ps with
        | nil => simp only [unp] at ih ⊢; rw [ih]
        | cons q qs => simp only [unp, List.cons_append] at ih ⊢; rw [ih]
theorem pieces_mem {c : UInt8} : ∀ {l p : By}, p ∈ pieces c l → c ∉ p ∧ p.length ≤ l.length
  | [], p, h => by simp [pieces] at h; subst h; simp
  | b :: l, p, h => by
    unfold pieces at h
    split at h
    · rcases List.mem_cons.1 h with rfl | h
      · simp
      · have := pieces_mem h
        exact ⟨this.1, by simp; omega⟩
    · rename_i hb
      split at h
      · simp at h
      · rename_i q qs hq
        rcases List.mem_cons.1 h with rfl | h
        · have := pieces_mem (c := c) (l := l) (p := q) (by rw [hq]; simp)
          refine ⟨fun e => ?_, by simp; omega⟩
          rcases List.mem_cons.1 e with e | e
          · exact hb e.symm
          · exact this.1 e
        · have := pieces_mem (c := c) (l := l) (p := p) (by rw [hq]; simp [h])
          exact ⟨this.1, by simp; omega⟩
theorem pieces_len (c : UInt8) : ∀ l : By, (pieces c l).length ≤ l.length + 1
  | [] => by simp [pieces]
  | b :: l => by
    have := pieces_len c l
    unfold pieces
    split
    · simp; omega
    · split
      · simp
      · rename_i h; rw [h] at this; simp at this ⊢; omega
/-- Lines, each with its end behind it. -/
def joinNl : List By → By
  | [] => []
  | l :: ls => l ++ 10 :: joinNl ls
theorem pieces_join : ∀ {ls : List By}, (∀ l ∈ ls, (10 : UInt8) ∉ l) → pieces 10 (joinNl ls) = ls ++ [[]]
  | [], _ => rfl
  | l :: ls, h => by
    show pieces 10 (l ++ 10 :: joinNl ls) = _
    rw [pieces_cut (h l (by simp)), pieces_join fun x hx => h x (List.mem_cons_of_mem _ hx)]
    rfl
theorem unp_join : ∀ (ls : List By), unp 10 (ls ++ [[]]) = joinNl ls
  | [] => rfl
  | [a] => by simp [unp, joinNl]
  | a :: b :: r => by
    have := unp_join (b :: r)
    show a ++ 10 :: unp 10 ((b :: r) ++ [[]]) = _
    rw [this]; rfl
theorem joinNl_append : ∀ (a b : List By), joinNl (a ++ b) = joinNl a ++ joinNl b
  | [], b => rfl
  | x :: a, b => by simp [joinNl, joinNl_append a b]

/-! ### strings.Split's pieces -/
theorem byte_none {c : UInt8} {l : By} (h : Lib.indexByte l c = -1) : c ∉ l := fun hm => by
  obtain ⟨j, hj⟩ := List.getElem?_of_mem hm
  exact Lib.indexByte_none h j hj
theorem byte_some {c : UInt8} {l : By} {i : Nat} (h : Lib.indexByte l c = i) : i < l.length ∧ l = l.take i ++ c :: l.drop (i + 1) ∧ c ∉ l.take i := by
  obtain ⟨h1, h2⟩ := Lib.indexByte_some h
  obtain ⟨hlt, he⟩ := List.getElem?_eq_some_iff.1 h1
  refine ⟨hlt, ?_, fun hm => ?_⟩
  · conv => lhs; rw [← List.take_append_drop i l, List.drop_eq_getElem_cons hlt, he]
  · obtain ⟨j, hj⟩ := List.getElem?_of_mem hm
    rw [List.getElem?_take] at hj
    split at hj
    · exact h2 j (by assumption) hj
    · simp at hj
theorem splitK_pieces (c : UInt8) : ∀ (k : Nat) (l : By), Lib.count l [c] = k → Lib.splitK [c] 0 k l = pieces c l
  | 0, l, hk => by
    rw [Lib.count_one] at hk
    rw [pieces_none (fun hm => by have := List.count_pos_iff.2 hm; omega)]
    rfl
  | k + 1, l, hk => by
    have hne : ¬ Lib.indexByte l c = -1 := fun h => by
      have := byte_none h
      rw [Lib.count_one, List.count_eq_zero.2 this] at hk
      omega
    have hge := Lib.indexByte_ge l c
    obtain ⟨i, hi⟩ : ∃ i : Nat, Lib.indexByte l c = i := ⟨(Lib.indexByte l c).toNat, by omega⟩
    obtain ⟨h0, h1, h2⟩ := byte_some hi
    have hc : Lib.count (l.drop (i + 1)) [c] = k := by
      have := Lib.count_hit (s := l) (sub := [c]) (i := i) (by simp) (by rw [Lib.index_one, hi])
      simp only [List.length_singleton] at this
      omega
    have ih := splitK_pieces c k (l.drop (i + 1)) hc
    conv => rhs; rw [h1, pieces_cut h2]
    unfold Lib.splitK
    rw [Lib.index_one, hi, if_neg (by simp)]
    show l.take (((i : Int)).toNat + 0) :: Lib.splitK [c] 0 k (l.drop (((i : Int)).toNat + 1)) = _
    rw [show ((i : Int)).toNat + 0 = i by omega, show ((i : Int)).toNat + 1 = i + 1 by omega, ih]
def bs (s : ByteArray) : By := s.data.toList
def mk (l : By) : ByteArray := ⟨l.toArray⟩
theorem bs_mk (l : By) : bs (mk l) = l := by simp [bs, mk]
theorem mk_bs (s : ByteArray) : mk (bs s) = s := by simp [bs, mk]
theorem size_bs (s : ByteArray) : s.size = (bs s).length := rfl
theorem split_bs (s : ByteArray) : (splitL s).map bs = pieces 32 (bs s) := by
  unfold splitL
  have := Lib.splitB_data spB 0 (Lib.countB s spB) s
  rw [show (fun x : ByteArray => x.data.toList) = bs from rfl] at this
  rw [this]
  exact splitK_pieces 32 _ _ rfl

/-! ### Numerals -/
theorem uint_append (c : UInt8) : ∀ (l : By) (acc v : Nat), Lib.parseUint10 acc l = .ok v → Lib.parseUint10 acc (l ++ [c]) = Lib.parseUint10 v [c]
  | [], acc, v, h => by
    simp only [Lib.parseUint10] at h
    injection h with h
    subst h; rfl
  | b :: l, acc, v, h => by
    have ih := uint_append c l
    show Lib.parseUint10 acc (b :: (l ++ [c])) = _
    unfold Lib.parseUint10 at h
    split at h
    · rename_i h1
      split at h
      · cases h
      · rename_i h2
        split at h
        · cases h
        · rename_i h3
          conv => lhs; unfold Lib.parseUint10
          rw [if_pos h1, if_neg h2, if_neg h3]
          exact ih _ _ h
    · cases h
theorem digit_nat {d : Nat} (h : d < 10) : (UInt8.ofNat (48 + d)).toNat = 48 + d := by
  rw [UInt8.toNat_ofNat']
  omega
theorem uint_dec : ∀ (u : Nat), u < 18446744073709551616 → Lib.parseUint10 0 (Lib.decDigits u) = .ok u := by
  intro u
  induction u using Nat.strongRecOn with
  | _ u ih =>
    intro hu
    rw [Lib.decDigits]
    split
    · rename_i h
      unfold Lib.parseUint10
      rw [digit_nat h, if_pos (by omega), if_neg (by omega), if_neg (by omega)]
      unfold Lib.parseUint10
      congr 1
      omega
    · rw [uint_append _ _ _ _ (ih (u / 10) (by omega) (by omega))]
      unfold Lib.parseUint10
      rw [digit_nat (Nat.mod_lt _ (by decide)), if_pos (by omega), if_neg (by omega), if_neg (by omega)]
      unfold Lib.parseUint10
      congr 1
      omega
theorem dec_ne (u : Nat) : Lib.decDigits u ≠ [] := by
  have h1 := Lib.nDigits_pos u
  have h2 := Lib.decDigits_length u
  intro e
  rw [e] at h2
  simp at h2
  omega
theorem dec_mem {u : Nat} {c : UInt8} : c ∈ Lib.decDigits u → 48 ≤ c.toNat ∧ c.toNat ≤ 57 := by
  induction u using Nat.strongRecOn with
  | _ u ih =>
    intro h
    rw [Lib.decDigits] at h
    split at h
    · rename_i hu
      obtain rfl := List.mem_singleton.1 h
      rw [digit_nat hu]; omega
    · rename_i hu
      rcases List.mem_append.1 h with h | h
      · exact ih (u / 10) (by omega) h
      · obtain rfl := List.mem_singleton.1 h
        rw [digit_nat (Nat.mod_lt _ (by decide))]; omega
theorem mag_dec {u : Nat} (h : u < 18446744073709551616) : Lib.parseMag (Lib.decDigits u) = .ok u := by
  unfold Lib.parseMag
  rw [if_neg (dec_ne u), uint_dec u h]
theorem parse_itoa {n : Int} (h : I64 n) : Lib.parseIntB 64 (Lib.itoa n) = .ok n := by
  obtain ⟨h0, h1⟩ := h
  rw [Lib.parseIntB_64]
  unfold Lib.itoa
  split
  · rename_i hn
    unfold Lib.atoiAll
    simp only [show (45 : UInt8).toNat = 45 from rfl, or_true, if_true]
    rw [mag_dec (by omega)]
    simp only [not_true_eq_false, false_and, if_false, true_and]
    rw [if_neg (by omega)]
    congr 1
    omega
  · rename_i hn
    cases hd : Lib.decDigits n.toNat with
    | nil => exact absurd hd (dec_ne _)
    | cons c r =>
      have hc := dec_mem (u := n.toNat) (c := c) (by rw [hd]; simp)
      unfold Lib.atoiAll
      simp only
      rw [if_neg (by omega), ← hd, mag_dec (by omega)]
      simp only
      rw [if_neg (by omega), if_neg (by omega), if_neg (by omega)]
      congr 1
      omega
/-- The number that a text is the numeral of. -/
def numL (t : By) : Option Int :=
  match Lib.parseIntB 64 t with
  | .ok v => if Lib.itoa v = t then some v else none
  | _ => none
theorem numL_iff {t : By} {n : Int} : numL t = some n ↔ I64 n ∧ Lib.itoa n = t := by
  constructor
  · intro h
    unfold numL at h
    split at h
    · rename_i v hv
      split at h
      · rename_i he
        simp only [Option.some.injEq] at h
        subst h
        have := Lib.parseIntB_bounds hv
        exact ⟨⟨by simpa using this.1, by have := this.2; simp at this; omega⟩, he⟩
      · cases h
    · cases h
  · rintro ⟨h1, rfl⟩
    unfold numL
    rw [parse_itoa h1]
    simp
theorem numL_itoa {n : Int} (h : I64 n) : numL (Lib.itoa n) = some n := numL_iff.2 ⟨h, rfl⟩
theorem itoa_mem {n : Int} {c : UInt8} (h : c ∈ Lib.itoa n) : c = 45 ∨ 48 ≤ c.toNat ∧ c.toNat ≤ 57 := by
  unfold Lib.itoa at h
  split at h
  · rcases List.mem_cons.1 h with h | h
    · exact .inl h
    · exact .inr (dec_mem h)
  · exact .inr (dec_mem h)
theorem itoa_no {n : Int} : (32 : UInt8) ∉ Lib.itoa n ∧ (10 : UInt8) ∉ Lib.itoa n := by
  constructor <;> intro h <;> rcases itoa_mem h with h | h
  · exact absurd h (by decide)
  · have : (32 : UInt8).toNat = 32 := rfl
    omega
  · exact absurd h (by decide)
  · have : (10 : UInt8).toNat = 10 := rfl
    omega
def numsOf : List By → Option (List Int)
  | [] => some []
  | t :: r => match numL t, numsOf r with
    | some n, some l => some (n :: l)
    | _, _ => none
theorem numsOf_iff : ∀ {r : List By} {l : List Int}, numsOf r = some l ↔ (∀ n ∈ l, I64 n) ∧ r = l.map Lib.itoa
  | [], l => by
    simp only [numsOf, Option.some.injEq]
    constructor
    · rintro rfl; simp
    · rintro ⟨_, h⟩
      exact (List.map_eq_nil_iff.1 h.symm).symm
  | t :: r, l => by
    have ih := fun l => numsOf_iff (r := r) (l := l)
    unfold numsOf
    constructor
    · intro h
      split at h
      · rename_i n l' h1 h2
        simp only [Option.some.injEq] at h
        subst h
        obtain ⟨a1, a2⟩ := numL_iff.1 h1
        obtain ⟨b1, b2⟩ := (ih l').1 h2
        refine ⟨fun m hm => ?_, ?_⟩
        · rcases List.mem_cons.1 hm with rfl | hm
          · exact a1
          · exact b1 m hm
        · rw [List.map_cons, a2, b2]
      · cases h
    · rintro ⟨h1, h2⟩
      cases l with
      | nil => simp at h2
      | cons n l =>
        rw [List.map_cons, List.cons.injEq] at h2
        rw [h2.1, numL_itoa (h1 n (by simp)), (ih l).2 ⟨fun m hm => h1 m (by simp [hm]), h2.2⟩]
/-- The numbers of a line behind its word, so many. -/
def numsL (word : By) (many : Nat) (t : By) : Option (List Int) :=
  match pieces 32 t with
  | [] => none
  | w :: r => if w = word ∧ r.length = many then numsOf r else none
/-- A line: a word and numbers. -/
def lineL (word : By) : List Int → By
  | [] => word
  | n :: l => word ++ 32 :: lineL (Lib.itoa n) l
theorem lineL_pieces : ∀ {l : List Int} {word : By}, (32 : UInt8) ∉ word → pieces 32 (lineL word l) = word :: l.map Lib.itoa
  | [], word, h => pieces_none h
  | n :: l, word, h => by
    show pieces 32 (word ++ 32 :: lineL (Lib.itoa n) l) = _
    rw [pieces_cut h, lineL_pieces itoa_no.1]
    rfl
theorem lineL_no : ∀ {l : List Int} {word : By}, (10 : UInt8) ∉ word → (10 : UInt8) ∉ lineL word l
  | [], word, h => h
  | n :: l, word, h => by
    intro hm
    rcases List.mem_append.1 hm with hm | hm
    · exact h hm
    · rcases List.mem_cons.1 hm with hm | hm
      · exact absurd hm (by decide)
      · exact lineL_no itoa_no.2 hm
theorem lineL_unp (word : By) : ∀ (l : List Int), unp 32 (word :: l.map Lib.itoa) = lineL word l := by
  intro l
  induction l generalizing word with
  | nil => rfl
  | cons n l ih =>
    show word ++ 32 :: unp 32 (Lib.itoa n :: l.map Lib.itoa) = _
    rw [ih]; rfl
theorem numsL_iff {word t : By} {many : Nat} {l : List Int} (hw : (32 : UInt8) ∉ word) : numsL word many t = some l ↔ l.length = many ∧ (∀ n ∈ l, I64 n) ∧ t = lineL word l := by
  unfold numsL
  constructor
  · intro h
    split at h
    · cases h
    · rename_i w r hp
      split at h
      · rename_i hc
        obtain ⟨rfl, hr⟩ := hc
        obtain ⟨h1, h2⟩ := numsOf_iff.1 h
        refine ⟨by rw [h2, List.length_map] at hr; exact hr, h1, ?_⟩
        rw [← lineL_unp, ← h2, ← hp, unp_pieces]
      · cases h
  · rintro ⟨h1, h2, rfl⟩
    rw [lineL_pieces hw]
    simp only
    rw [if_pos ⟨trivial, by simpa using h1⟩]
    exact numsOf_iff.2 ⟨h2, rfl⟩
theorem lineW_bs : ∀ (l : List Int) (word : ByteArray), bs (lineW word l) = lineL (bs word) l := by
  intro l
  have key : ∀ (l : List Int) (a w : By), a ++ lineL w l = lineL (a ++ w) l := by
    intro l
    cases l with
    | nil => intro a w; rfl
    | cons n l => intro a w; simp [lineL]
  induction l with
  | nil => intro word; rfl
  | cons n l ih =>
    intro word
    show bs (lineW (word ++ (spB ++ itoaB n)) l) = _
    rw [ih]
    have e : bs (word ++ (spB ++ itoaB n)) = (bs word ++ [32]) ++ Lib.itoa n := by
      simp [bs, spB, itoaB, ByteArray.data_append]
    rw [e, ← key]
    simp [lineL]
theorem lineB_bs (word : ByteArray) (l : List Int) : bs (lineB word l) = lineL (bs word) l ++ [10] := by
  unfold lineB
  have : bs (lineW word l ++ nlB) = bs (lineW word l) ++ [10] := by simp [bs, nlB, ByteArray.data_append]
  rw [this, lineW_bs]
end Go.Proofs.YtfhdgccpngdnaaaDoor
