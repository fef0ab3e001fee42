/-
  What searches come to, as text: what is printed is read as the same, and the other way round. No program in this text.
-/
import Derived.Test.YtfhdgccpngdnaaaDoorTrP
namespace Go.Proofs.YtfhdgccpngdnaaaDoor
open Go.RowKit

def foundB : ByteArray := ⟨#[102, 111, 117, 110, 100]⟩
def moveB : ByteArray := ⟨#[109, 111, 118, 101]⟩
def cycB : ByteArray := ⟨#[99, 121, 99, 108, 101]⟩
def mvL (v : D.Move) : List Int := [v.Pid, v.Esc, v.Way, v.With, v.WithEsc, v.WithWay, v.Claim]
def mvOf (l : List Int) : D.Move := ⟨l.getD 0 0, l.getD 1 0, l.getD 2 0, l.getD 3 0, l.getD 4 0, l.getD 5 0, l.getD 6 0⟩
def fdL (f : D.Found) : List Int := [f.Kind, f.What, f.Err, f.At, f.States, f.Steps]
theorem mvOf_mvL (v : D.Move) : mvOf (mvL v) = v := rfl
theorem mvL_mvOf {l : List Int} (h : l.length = 7) : mvL (mvOf l) = l := by
  match l, h with
  | [a, b, c, d, e, f, g], _ => rfl
/-! ### Printed -/
def moveLines (c : Int) : Nat → List D.Move → List By
  | _, [] => []
  | i, v :: r => (if (i : Int) = c then [bs cycB] else []) ++ lineL (bs moveB) (mvL v) :: moveLines c (i + 1) r
def printLines (f : D.Found) : List By := lineL (bs foundB) (fdL f) :: moveLines f.Cycle 0 f.Trail
def FdOk (f : D.Found) : Prop := 1 ≤ f.Kind ∧ f.Kind ≤ 4 ∧ -1 ≤ f.Cycle ∧ f.Cycle < f.Trail.length
instance (f : D.Found) : Decidable (FdOk f) := by unfold FdOk; exact inferInstance
def printP (f : D.Found) : ByteArray × Int := if FdOk f then (mk (joinNl (printLines f)), 0) else (⟨#[]⟩, 42)
theorem moveLines_append (c : Int) : ∀ (a b : List D.Move) (i : Nat), moveLines c i (a ++ b) = moveLines c i a ++ moveLines c (i + a.length) b
  | [], b, i => rfl
  | v :: a, b, i => by
    have := moveLines_append c a b (i + 1)
    simp only [List.cons_append, moveLines, this, List.length_cons, List.append_assoc]
    rw [show i + 1 + a.length = i + (a.length + 1) by omega]
/-- A cycle that begins behind them all is not seen. -/
theorem moveLines_far (c c' : Int) : ∀ (a : List D.Move) (i : Nat), (∀ k : Nat, i ≤ k → k < i + a.length → ((k : Int) = c ↔ (k : Int) = c')) → moveLines c i a = moveLines c' i a
  | [], i, _ => rfl
  | v :: a, i, h => by
    have h0 := h i (by omega) (by simp)
    have ih := moveLines_far c c' a (i + 1) fun k h1 h2 => h k (by omega) (by simp only [List.length_cons]; omega)
    simp only [moveLines, ih, h0]
/-! ### Read -/
def stepP (t : By) (f : D.Found) (first due : Bool) : Option (D.Found × Bool) :=
  if first = true then
    match numsL (bs foundB) 6 t with
    | some l => if 1 ≤ l.getD 0 0 ∧ l.getD 0 0 ≤ 4 then some (⟨l.getD 0 0, l.getD 1 0, l.getD 2 0, l.getD 3 0, f.Trail, f.Cycle, l.getD 4 0, l.getD 5 0⟩, due) else none
    | none => none
  else if t = bs cycB ∧ f.Cycle < 0 then some (⟨f.Kind, f.What, f.Err, f.At, f.Trail, f.Trail.length, f.States, f.Steps⟩, true)
  else match numsL (bs moveB) 7 t with
    | some l => some (⟨f.Kind, f.What, f.Err, f.At, f.Trail ++ [mvOf l], f.Cycle, f.States, f.Steps⟩, false)
    | none => none
def parseP : List By → D.Found → Nat → Bool → Bool → D.Found × Int × Int
  | [], _, i, _, _ => (zeroFd, 43, i)
  | [t], f, i, first, due => if t = [] ∧ first = false ∧ due = false then (f, 0, 0) else (zeroFd, 43, i)
  | t :: u :: r, f, i, first, due =>
    match stepP t f first due with
    | some q => parseP (u :: r) q.1 (i + t.length + 1) false q.2
    | none => (zeroFd, 43, i)
def startFd : D.Found := ⟨0, 0, 0, 0, [], -1, 0, 0⟩
def parseT (s : ByteArray) : D.Found × Int × Int := parseP (pieces 10 (bs s)) startFd 0 true false
theorem words_no : (32 : UInt8) ∉ bs foundB ∧ (10 : UInt8) ∉ bs foundB ∧ (32 : UInt8) ∉ bs moveB ∧ (10 : UInt8) ∉ bs moveB ∧ (32 : UInt8) ∉ bs cycB ∧ (10 : UInt8) ∉ bs cycB := by decide
theorem lineL_ne_cyc (l : List Int) : lineL (bs moveB) l ≠ bs cycB := by
  intro h
  have h1 := lineL_pieces (l := l) words_no.2.2.1
  rw [h, pieces_none words_no.2.2.2.2.1] at h1
  have := List.cons.inj h1
  exact absurd this.1 (by decide)
/-- The numbers fit. -/
structure FdI (f : D.Found) : Prop where
  hd : ∀ n ∈ fdL f, I64 n
  cy : I64 f.Cycle
  tr : ∀ v ∈ f.Trail, ∀ n ∈ mvL v, I64 n
theorem parse_moves (K W E A S P : Int) (c : Int) : ∀ (r a : List D.Move) (i : Nat), (∀ v ∈ r, ∀ n ∈ mvL v, I64 n) → c < a.length + r.length → -1 ≤ c →
    parseP (moveLines c a.length r ++ [[]]) ⟨K, W, E, A, a, if c < a.length then c else -1, S, P⟩ i false false = (⟨K, W, E, A, a ++ r, c, S, P⟩, 0, 0)
  | [], a, i, _, hc, _ => by
    show parseP [[]] _ i false false = _
    unfold parseP
    rw [if_pos ⟨rfl, rfl, rfl⟩, if_pos (by simpa using hc), List.append_nil]
  | v :: r, a, i, hI, hc, hn => by
    have ih := fun i => parse_moves K W E A S P c r (a ++ [v]) i (fun x hx => hI x (by simp [hx])) (by simp at hc ⊢; omega) hn
    have hv : numsL (bs moveB) 7 (lineL (bs moveB) (mvL v)) = some (mvL v) := (numsL_iff words_no.2.2.1).2 ⟨rfl, hI v (by simp), rfl⟩
    have step : ∀ (i : Nat) (f : D.Found) (b : Bool) (u : By) (q : List By), f.Kind = K → f.What = W → f.Err = E → f.At = A → f.Trail = a → f.States = S → f.Steps = P →
        parseP (lineL (bs moveB) (mvL v) :: u :: q) f i false b = parseP (u :: q) ⟨K, W, E, A, a ++ [v], f.Cycle, S, P⟩ (i + (lineL (bs moveB) (mvL v)).length + 1) false false := by
      intro i f b u q e1 e2 e3 e4 e5 e6 e7
      conv => lhs; unfold parseP
      have hs : stepP (lineL (bs moveB) (mvL v)) f false b = some (⟨K, W, E, A, a ++ [v], f.Cycle, S, P⟩, false) := by
        unfold stepP
        rw [if_neg (by simp), if_neg (fun h => lineL_ne_cyc _ h.1), hv]
        simp only [e1, e2, e3, e4, e5, e6, e7, mvOf_mvL]
      rw [hs]
    have hlen : (a ++ [v]).length = a.length + 1 := by simp
    rw [hlen] at ih
    obtain ⟨u, q, huq⟩ : ∃ u q, moveLines c (a.length + 1) r ++ [[]] = u :: q := by
      cases h : moveLines c (a.length + 1) r ++ [[]] with
      | nil => simp at h
      | cons u q => exact ⟨u, q, rfl⟩
    rw [huq] at ih
    have hap : a ++ [v] ++ r = a ++ v :: r := by simp
    rw [hap] at ih
    by_cases hci : (a.length : Int) = c
    · have e : moveLines c a.length (v :: r) ++ [[]] = bs cycB :: lineL (bs moveB) (mvL v) :: u :: q := by
        simp only [moveLines, if_pos hci, List.cons_append, List.nil_append, huq]
      rw [e]
      conv => lhs; unfold parseP
      have hs : stepP (bs cycB) ⟨K, W, E, A, a, if c < a.length then c else -1, S, P⟩ false false = some (⟨K, W, E, A, a, a.length, S, P⟩, true) := by
        unfold stepP
        rw [if_neg (by simp), if_pos ⟨rfl, by simp only; rw [if_neg (by omega)]; decide⟩]
      rw [hs]
      simp only
      rw [step _ ⟨K, W, E, A, a, a.length, S, P⟩ true u q rfl rfl rfl rfl rfl rfl rfl]
      have := ih (i + (bs cycB).length + 1 + (lineL (bs moveB) (mvL v)).length + 1)
      rw [if_pos (by omega)] at this
      simp only
      rw [hci]; exact this
    · have e : moveLines c a.length (v :: r) ++ [[]] = lineL (bs moveB) (mvL v) :: u :: q := by
        simp only [moveLines, if_neg hci, List.cons_append, List.nil_append, huq]
      rw [e, step _ _ false u q rfl rfl rfl rfl rfl rfl rfl]
      have := ih (i + (lineL (bs moveB) (mvL v)).length + 1)
      have e2 : (if c < ((a.length + 1 : Nat) : Int) then c else -1) = if c < a.length then c else -1 := by
        by_cases h : c < a.length
        · rw [if_pos h, if_pos (by omega)]
        · rw [if_neg h, if_neg (by omega)]
      rw [e2] at this
      exact this
/-- **What is printed is read as the same.** -/
theorem parse_print {f : D.Found} (hI : FdI f) (h : FdOk f) : parseT (printP f).1 = (f, 0, 0) := by
  obtain ⟨h1, h2, h3, h4⟩ := h
  unfold parseT printP
  rw [if_pos ⟨h1, h2, h3, h4⟩, bs_mk, pieces_join]
  · show parseP (lineL (bs foundB) (fdL f) :: (moveLines f.Cycle 0 f.Trail ++ [[]])) startFd 0 true false = _
    have hv : numsL (bs foundB) 6 (lineL (bs foundB) (fdL f)) = some (fdL f) := (numsL_iff words_no.1).2 ⟨rfl, hI.hd, rfl⟩
    have hs : stepP (lineL (bs foundB) (fdL f)) startFd true false = some (⟨f.Kind, f.What, f.Err, f.At, [], -1, f.States, f.Steps⟩, false) := by
      unfold stepP
      rw [if_pos rfl, hv]
      simp only
      rw [if_pos ⟨h1, h2⟩]
      rfl
    obtain ⟨u, q, huq⟩ : ∃ u q, moveLines f.Cycle 0 f.Trail ++ [[]] = u :: q := by
      cases h : moveLines f.Cycle 0 f.Trail ++ [[]] with
      | nil => simp at h
      | cons u q => exact ⟨u, q, rfl⟩
    rw [huq]
    conv => lhs; unfold parseP
    rw [hs]
    simp only
    rw [← huq]
    have := parse_moves f.Kind f.What f.Err f.At f.States f.Steps f.Cycle f.Trail [] (0 + (lineL (bs foundB) (fdL f)).length + 1) hI.tr (by simpa using h4) h3
    have e0 : (if f.Cycle < (([] : List D.Move).length : Int) then f.Cycle else -1) = -1 := by
      simp only [List.length_nil]
      split <;> omega
    rw [e0] at this
    exact this
  · intro l hl
    have key : ∀ (c : Int) (r : List D.Move) (i : Nat), ∀ l ∈ moveLines c i r, (10 : UInt8) ∉ l := by
      intro c r
      induction r with
      | nil => intro i l hl; simp [moveLines] at hl
      | cons v r ih =>
        intro i l hl
        simp only [moveLines] at hl
        rcases List.mem_append.1 hl with hl | hl
        · split at hl
          · obtain rfl := List.mem_singleton.1 hl; exact words_no.2.2.2.2.2
          · simp at hl
        · rcases List.mem_cons.1 hl with rfl | hl
          · exact lineL_no words_no.2.2.2.1
          · exact ih _ l hl
    rcases List.mem_cons.1 hl with rfl | hl
    · exact lineL_no words_no.2.1
    · exact key _ _ _ l hl
/-- What has been read so far, as it is printed. -/
def soFar (f : D.Found) (due : Bool) : List By := printLines f ++ if due = true then [bs cycB] else []
structure Mid (f : D.Found) (due : Bool) (n : Nat) : Prop where
  fit : FdI f
  k0 : 1 ≤ f.Kind
  k1 : f.Kind ≤ 4
  c0 : -1 ≤ f.Cycle
  c1 : if due = true then f.Cycle = f.Trail.length else f.Cycle < f.Trail.length
  len : f.Trail.length ≤ n
theorem step_mid {t : By} {f f' : D.Found} {due due' : Bool} {n : Nat} (hM : Mid f due n) (hn : n ≤ 9223372036854775807) (h : stepP t f false due = some (f', due')) : Mid f' due' (n + 1) ∧ soFar f' due' = soFar f due ++ [t] := by
  unfold stepP at h
  rw [if_neg (by simp)] at h
  split at h
  · rename_i hc
    obtain ⟨rfl, hc⟩ := hc
    simp only [Option.some.injEq, Prod.mk.injEq] at h
    obtain ⟨rfl, rfl⟩ := h
    have h1 := hM.c1
    have hlen := hM.len
    have hd : due = false := by
      cases due with
      | false => rfl
      | true => rw [if_pos rfl] at h1; omega
    subst hd
    rw [if_neg (by simp)] at h1
    refine ⟨⟨⟨hM.fit.hd, ⟨by show _ ≤ ((f.Trail.length : Nat) : Int); omega, by show ((f.Trail.length : Nat) : Int) ≤ _; omega⟩, hM.fit.tr⟩, hM.k0, hM.k1, by show -1 ≤ ((f.Trail.length : Nat) : Int); omega, by rw [if_pos rfl], by show f.Trail.length ≤ _; omega⟩, ?_⟩
    unfold soFar printLines
    have := moveLines_far (f.Trail.length : Int) f.Cycle f.Trail 0 (fun k h2 h3 => by simp at h3; omega)
    rw [if_pos rfl, if_neg (by simp), List.append_nil]
    simp only [fdL, List.cons_append]
    rw [this]
  · split at h
    · rename_i l hl
      obtain ⟨a1, a2, rfl⟩ := (numsL_iff words_no.2.2.1).1 hl
      simp only [Option.some.injEq, Prod.mk.injEq] at h
      obtain ⟨rfl, rfl⟩ := h
      have h1 := hM.c1
      have hlen := hM.len
      refine ⟨⟨⟨hM.fit.hd, hM.fit.cy, fun v hv => ?_⟩, hM.k0, hM.k1, hM.c0, ?_, by simp only [List.length_append, List.length_singleton]; omega⟩, ?_⟩
      · rcases List.mem_append.1 hv with hv | hv
        · exact hM.fit.tr v hv
        · obtain rfl := List.mem_singleton.1 hv
          rw [mvL_mvOf a1]; exact a2
      · rw [if_neg (by simp)]
        show f.Cycle < ((f.Trail ++ [mvOf l]).length : Int)
        simp only [List.length_append, List.length_singleton]
        cases due with
        | true => rw [if_pos rfl] at h1; omega
        | false => rw [if_neg (by simp)] at h1; omega
      · unfold soFar printLines
        rw [if_neg (by simp)]
        simp only [fdL, List.append_nil, List.cons_append, moveLines_append, moveLines, mvL_mvOf a1, Nat.zero_add, List.append_assoc]
        cases due with
        | true =>
          rw [if_pos rfl] at h1
          rw [if_pos h1.symm, if_pos rfl]
        | false =>
          rw [if_neg (by simp)] at h1
          rw [if_neg (by omega), if_neg (by simp)]
    · cases h
theorem parse_mid : ∀ (ls : List By) (f g : D.Found) (i : Nat) (due : Bool) (n : Nat), Mid f due n → n + ls.length ≤ 9223372036854775807 → parseP ls f i false due = (g, 0, 0) → FdI g ∧ FdOk g ∧ g.Trail.length ≤ n + ls.length ∧ printLines g ++ [[]] = soFar f due ++ ls
  | [], f, g, i, due, n, hM, hn, h => by
    unfold parseP at h
    simp at h
  | [t], f, g, i, due, n, hM, hn, h => by
    unfold parseP at h
    split at h
    · rename_i hc
      obtain ⟨rfl, _, rfl⟩ := hc
      simp only [Prod.mk.injEq, and_true] at h
      subst h
      have h1 := hM.c1
      rw [if_neg (by simp)] at h1
      exact ⟨hM.fit, ⟨hM.k0, hM.k1, hM.c0, h1⟩, by have := hM.len; omega, by unfold soFar; simp⟩
    · simp at h
  | t :: u :: r, f, g, i, due, n, hM, hn, h => by
    unfold parseP at h
    split at h
    · rename_i q hq
      obtain ⟨f', due'⟩ := q
      simp only [List.length_cons] at hn
      obtain ⟨h1, h2⟩ := step_mid hM (by omega) hq
      obtain ⟨h3, h4, h5, h6⟩ := parse_mid (u :: r) f' g _ due' (n + 1) h1 (by simp only [List.length_cons]; omega) h
      refine ⟨h3, h4, by simp only [List.length_cons] at h5 ⊢; omega, ?_⟩
      rw [h6, h2]; simp
    · simp at h
/-- **What is read is written as the same text.** -/
theorem print_parse {s : ByteArray} {g : D.Found} (hs : s.size ≤ 4611686018427387904) (h : parseT s = (g, 0, 0)) : FdI g ∧ g.Trail.length ≤ s.size ∧ printP g = (s, 0) := by
  unfold parseT at h
  have hlen := pieces_len 10 (bs s)
  rw [← size_bs] at hlen
  cases hp : pieces 10 (bs s) with
  | nil => exact absurd hp (pieces_ne _ _)
  | cons t ls =>
    rw [hp] at h hlen
    cases ls with
    | nil =>
      unfold parseP at h
      rw [if_neg (by simp)] at h
      simp at h
    | cons u r =>
      unfold parseP at h
      split at h
      · rename_i q hq
        obtain ⟨f', due'⟩ := q
        unfold stepP at hq
        rw [if_pos rfl] at hq
        split at hq
        · rename_i l hl
          split at hq
          · rename_i hk
            obtain ⟨a1, a2, rfl⟩ := (numsL_iff words_no.1).1 hl
            simp only [Option.some.injEq, Prod.mk.injEq] at hq
            obtain ⟨rfl, rfl⟩ := hq
            have e : fdL ⟨l.getD 0 0, l.getD 1 0, l.getD 2 0, l.getD 3 0, startFd.Trail, startFd.Cycle, l.getD 4 0, l.getD 5 0⟩ = l := by
              match l, a1 with
              | [a, b, c, d, e, f], _ => rfl
            simp only [List.length_cons] at hlen
            obtain ⟨h3, h4, h5, h6⟩ := parse_mid (u :: r) _ g _ false 0 ⟨⟨by rw [e]; exact a2, by show I64 (-1); exact ⟨by decide, by decide⟩, fun v hv => by simp [startFd] at hv⟩, hk.1, hk.2, by show (-1 : Int) ≤ -1; decide, by rw [if_neg (by simp)]; show (-1 : Int) < 0; decide, by simp [startFd]⟩ (by simp only [List.length_cons]; omega) h
            refine ⟨h3, by simp only [List.length_cons] at h5; omega, ?_⟩
            have e2 : soFar ⟨l.getD 0 0, l.getD 1 0, l.getD 2 0, l.getD 3 0, startFd.Trail, startFd.Cycle, l.getD 4 0, l.getD 5 0⟩ false = [lineL (bs foundB) l] := by
              unfold soFar printLines
              rw [e]; rfl
            rw [e2] at h6
            unfold printP
            rw [if_pos h4]
            have e3 : joinNl (printLines g) = bs s := by
              rw [← unp_join, h6, ← unp_pieces 10 (bs s), hp]; rfl
            rw [e3, mk_bs]
          · cases hq
        · cases hq
      · simp at h
theorem parse_fail : ∀ (ls : List By) (f : D.Found) (i : Nat) (a b : Bool), (parseP ls f i a b).2.1 = 0 → ∃ g, parseP ls f i a b = (g, 0, 0)
  | [], f, i, a, b, h => by simp [parseP] at h
  | [t], f, i, a, b, h => by
    unfold parseP at h ⊢
    split at h
    · rename_i hc; rw [if_pos hc]; exact ⟨_, rfl⟩
    · simp at h
  | t :: u :: r, f, i, a, b, h => by
    unfold parseP at h ⊢
    split at h
    · rename_i q hq; exact parse_fail (u :: r) _ _ _ _ h
    · simp at h
end Go.Proofs.YtfhdgccpngdnaaaDoor
