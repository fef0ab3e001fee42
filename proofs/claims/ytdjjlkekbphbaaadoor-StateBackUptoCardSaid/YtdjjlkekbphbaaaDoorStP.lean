/-
  Layer 12 in plain terms: the states of a model, as text; no program in this text.
-/
import Derived.Test.YtdjjlkekbphbaaaDoorStNum
namespace Go.Proofs.YtdjjlkekbphbaaaDoor
open Go.RowKit

/-! ### Which states may be -/
def typedP (t : List D.Type) (l : List Int) : Bool := decide (t.length = l.length) && allI l.length fun i => fitsP (t.getD i default) (l.getD i 0)
def shAt (m : D.Model) (k : Int) : D.Shape := m.Shapes.getD k.toNat default
def prAt (m : D.Model) (k : Int) : D.Proc := m.Procs.getD k.toNat default
def chanP (m : D.Model) (c : D.Chan) : Bool := inP m.Shapes.length c.Shape && decide ((c.Queue.length : Int) ≤ (shAt m c.Shape).Room) && allI c.Queue.length fun i => typedP (shAt m c.Shape).Fields (c.Queue.getD i [])
def processP (m : D.Model) (p : D.Process) : Bool := procP m p.Type_ && inP (prAt m p.Type_).Locs.length p.Loc && decide (p.Prio = (prAt m p.Type_).Prio) && typedP (prAt m p.Type_).Frame p.Frame
def headP (m : D.Model) (s : D.State) : Bool := typedP m.Globals s.Globals && decide (s.Chans.length ≤ 32) && decide (s.Procs.length ≤ 16) && decide (0 ≤ s.Last) && decide (s.Last < 16) && decide (-1 ≤ s.Alone) && decide (s.Alone < s.Procs.length)
def claimAt (m : D.Model) (s : D.State) : Bool := bif decide (m.Claim < 0) then decide (s.Claim = -1) else inP (prAt m m.Claim).Locs.length s.Claim
def stFits (m : D.Model) (s : D.State) : Bool := headP m s && (allI s.Chans.length fun i => chanP m (s.Chans.getD i default)) && (allI s.Procs.length fun i => processP m (s.Procs.getD i default)) && claimAt m s
def mayP (m : D.Model) : Bool := decide ((checkP m).1 = 0)
def stCheck (m : D.Model) (s : D.State) : Int := bif mayP m then (bif stFits m s then 0 else 41) else 40

/-! ### As text -/
def rowB (l : List Int) : By := l.flatMap fun n => Lib.itoa n ++ [44]
def chanL (c : D.Chan) : List Int := c.Shape :: (c.Queue.length : Int) :: c.Queue.flatten
def procL (p : D.Process) : List Int := p.Type_ :: p.Loc :: p.Frame
def stateL (s : D.State) : List Int := s.Globals ++ ((s.Chans.length : Int) :: (s.Chans.flatMap chanL ++ ((s.Procs.length : Int) :: (s.Procs.flatMap procL ++ [s.Last, s.Alone, s.Claim]))))
def textP (s : D.State) : ByteArray := mk (rowB (stateL s))
def encodeP (m : D.Model) (s : D.State) : ByteArray × Int := bif decide (stCheck m s = 0) then (textP s, 0) else (⟨#[]⟩, stCheck m s)

/-! ### Read -/
/-- The numbers of a text: so far; the piece that is being read. -/
def scanP : List Int → By → By → List Int × Bool
  | acc, cur, [] => (acc, decide (cur = []))
  | acc, cur, c :: r => if c = 44 then (match numL cur with
    | some n => scanP (acc ++ [n]) [] r
    | none => ([], false)) else scanP acc (cur ++ [c]) r
abbrev Rdr := List Int × Bool
def takeP (n : Nat) (r : Rdr) : Rdr × List Int := if r.1.length < n then ((r.1, true), List.replicate (min n 128) 0) else ((r.1.drop n, r.2), r.1.take n)
def oneP (a b : Int) (r : Rdr) : Rdr × Int :=
  bif (takeP 1 r).1.2 || (decide ((takeP 1 r).2.getD 0 0 < a) || decide (b ≤ (takeP 1 r).2.getD 0 0)) then (((takeP 1 r).1.1, true), 0) else ((takeP 1 r).1, (takeP 1 r).2.getD 0 0)
def queueD (m : D.Model) (sh : Int) : Nat → Rdr → List (List Int) → Rdr × List (List Int)
  | 0, r, q => (r, q)
  | n + 1, r, q => bif r.2 then queueD m sh n r q else queueD m sh n (takeP (shAt m sh).Fields.length r).1 (q ++ [(takeP (shAt m sh).Fields.length r).2])
def chanD (m : D.Model) (r : Rdr) : Rdr × D.Chan :=
  let a := oneP 0 m.Shapes.length r
  let b := oneP 0 17 a.1
  let c := queueD m a.2 b.2.toNat b.1 []
  (c.1, ⟨a.2, c.2⟩)
def chansD (m : D.Model) : Nat → Rdr → List D.Chan → Rdr × List D.Chan
  | 0, r, q => (r, q)
  | n + 1, r, q => chansD m n (chanD m r).1 (q ++ [(chanD m r).2])
def procD (m : D.Model) (r : Rdr) : Rdr × D.Process :=
  let a := oneP 0 m.Procs.length r
  let b := oneP 0 256 a.1
  let c := takeP (prAt m a.2).Frame.length b.1
  (c.1, ⟨a.2, b.2, (prAt m a.2).Prio, c.2⟩)
def procsD (m : D.Model) : Nat → Rdr → List D.Process → Rdr × List D.Process
  | 0, r, q => (r, q)
  | n + 1, r, q => procsD m n (procD m r).1 (q ++ [(procD m r).2])
def stateD (m : D.Model) (r : Rdr) : Rdr × D.State :=
  let g := takeP m.Globals.length r
  let nc := oneP 0 33 g.1
  let c := chansD m nc.2.toNat nc.1 []
  let np := oneP 0 17 c.1
  let p := procsD m np.2.toNat np.1 []
  let la := oneP 0 16 p.1
  let al := oneP (-1) 16 la.1
  let cl := oneP (-1) 256 al.1
  (cl.1, ⟨g.2, c.2, p.2, la.2, al.2, cl.2⟩)
def readP (t : ByteArray) : Rdr := ((scanP [] [] (bs t)).1, !(scanP [] [] (bs t)).2)
def zeroSt : D.State := ⟨[], [], [], 0, 0, 0⟩
def decodeP (m : D.Model) (t : ByteArray) : D.State × Int :=
  bif mayP m then (bif (stateD m (readP t)).1.2 || (decide (0 < (stateD m (readP t)).1.1.length) || !(stFits m (stateD m (readP t)).2)) then (zeroSt, 41) else ((stateD m (readP t)).2, 0)) else (zeroSt, 40)

/-! ### Read back -/
theorem scan_piece : ∀ (p : By) (acc : List Int) (cur rest : By), (44 : UInt8) ∉ p → scanP acc cur (p ++ rest) = scanP acc (cur ++ p) rest
  | [], acc, cur, rest, _ => by simp
  | c :: p, acc, cur, rest, h => by
    have hc : c ≠ 44 := fun e => h (by rw [e]; exact List.mem_cons_self ..)
    show scanP acc cur (c :: (p ++ rest)) = _
    rw [scanP, if_neg hc, scan_piece p acc (cur ++ [c]) rest fun hm => h (List.mem_cons_of_mem _ hm), List.append_assoc]
    rfl
theorem scan_row : ∀ (l : List Int) (acc : List Int), (∀ n ∈ l, I64 n) → scanP acc [] (rowB l) = (acc ++ l, true)
  | [], acc, _ => by simp [rowB, scanP]
  | n :: l, acc, h => by
    have ih := scan_row l (acc ++ [n]) fun x hx => h x (List.mem_cons_of_mem _ hx)
    show scanP acc [] ((Lib.itoa n ++ [44]) ++ rowB l) = _
    rw [List.append_assoc, scan_piece _ _ _ _ itoa_no, List.nil_append]
    show scanP acc (Lib.itoa n) (44 :: rowB l) = _
    unfold scanP
    rw [if_pos rfl, numL_itoa (h n (List.mem_cons_self ..))]
    simp only
    rw [ih, List.append_assoc]; rfl
theorem scan_back : ∀ (r : By) (acc : List Int) (cur : By) (l : List Int), scanP acc cur r = (l, true) → ∃ l', l = acc ++ l' ∧ (∀ n ∈ l', I64 n) ∧ cur ++ r = rowB l'
  | [], acc, cur, l, h => by
    simp only [scanP, Prod.mk.injEq, decide_eq_true_eq] at h
    obtain ⟨rfl, rfl⟩ := h
    exact ⟨[], by simp, by simp, rfl⟩
  | c :: r, acc, cur, l, h => by
    unfold scanP at h
    split at h
    · rename_i hc
      subst hc
      split at h
      · rename_i n hn
        obtain ⟨h1, h2⟩ := numL_iff.1 hn
        obtain ⟨l', e1, e2, e3⟩ := scan_back r (acc ++ [n]) [] l h
        refine ⟨n :: l', by rw [e1, List.append_assoc]; rfl, fun x hx => ?_, ?_⟩
        · rcases List.mem_cons.1 hx with rfl | hx
          · exact h1
          · exact e2 x hx
        · show cur ++ 44 :: r = (Lib.itoa n ++ [44]) ++ rowB l'
          rw [← e3, h2]; simp
      · simp at h
    · obtain ⟨l', e1, e2, e3⟩ := scan_back r acc (cur ++ [c]) l h
      exact ⟨l', e1, e2, by rw [← e3, List.append_assoc]; rfl⟩

theorem take_app {n : Nat} {a rest : List Int} (h : a.length = n) : takeP n (a ++ rest, false) = ((rest, false), a) := by
  unfold takeP
  rw [if_neg (by simp; omega)]
  simp [← h]
theorem one_app {a b v : Int} {rest : List Int} (h0 : a ≤ v) (h1 : v < b) : oneP a b (v :: rest, false) = ((rest, false), v) := by
  unfold oneP
  rw [show (v :: rest, false) = (([v] ++ rest : List Int), false) from rfl, take_app (n := 1) rfl]
  have : (false || (decide (([v] : List Int).getD 0 0 < a) || decide (b ≤ ([v] : List Int).getD 0 0))) = false := by simp; omega
  rw [this]; rfl
theorem take_back {n : Nat} {r r' : Rdr} {v : List Int} (h : takeP n r = (r', v)) (hb : r'.2 = false) : r.2 = false ∧ r.1 = v ++ r'.1 ∧ v.length = n := by
  unfold takeP at h
  split at h
  · simp only [Prod.mk.injEq] at h
    rw [← h.1] at hb; cases hb
  · simp only [Prod.mk.injEq] at h
    obtain ⟨rfl, rfl⟩ := h
    exact ⟨hb, (List.take_append_drop ..).symm, by simp; omega⟩
theorem one_back {a b : Int} {r r' : Rdr} {v : Int} (h : oneP a b r = (r', v)) (hb : r'.2 = false) : r.2 = false ∧ r.1 = v :: r'.1 ∧ a ≤ v ∧ v < b := by
  unfold oneP at h
  generalize ht : takeP 1 r = t at h
  obtain ⟨q, l⟩ := t
  simp only at h
  cases hc : (q.2 || (decide (l.getD 0 0 < a) || decide (b ≤ l.getD 0 0))) with
  | true =>
    rw [hc, cond_true] at h
    simp only [Prod.mk.injEq] at h
    rw [← h.1] at hb; cases hb
  | false =>
    rw [hc, cond_false] at h
    simp only [Prod.mk.injEq] at h
    obtain ⟨rfl, rfl⟩ := h
    obtain ⟨h1, h2, h3⟩ := take_back ht hb
    match l, h3 with
    | [x], _ =>
      simp at hc
      exact ⟨h1, h2, by simpa using hc.2.1, by simpa using hc.2.2⟩
theorem queue_app {m : D.Model} {sh : Int} : ∀ (q acc : List (List Int)) (rest : List Int), (∀ x ∈ q, x.length = (shAt m sh).Fields.length) → queueD m sh q.length (q.flatten ++ rest, false) acc = ((rest, false), acc ++ q)
  | [], acc, rest, _ => by simp [queueD]
  | x :: q, acc, rest, h => by
    show queueD m sh (q.length + 1) ((x ++ q.flatten) ++ rest, false) acc = _
    unfold queueD
    simp only [cond_false]
    rw [List.append_assoc, take_app (h x (List.mem_cons_self ..))]
    simp only
    rw [queue_app q (acc ++ [x]) rest fun y hy => h y (List.mem_cons_of_mem _ hy), List.append_assoc]
    rfl
theorem queue_back {m : D.Model} {sh : Int} : ∀ (n : Nat) (r r' : Rdr) (acc q : List (List Int)), queueD m sh n r acc = (r', q) → r'.2 = false → r.2 = false ∧ ∃ q', q = acc ++ q' ∧ q'.length = n ∧ r.1 = q'.flatten ++ r'.1
  | 0, r, r', acc, q, h, hb => by
    simp only [queueD, Prod.mk.injEq] at h
    obtain ⟨rfl, rfl⟩ := h
    exact ⟨hb, [], by simp, rfl, by simp⟩
  | n + 1, r, r', acc, q, h, hb => by
    unfold queueD at h
    cases hr : r.2 with
    | true =>
      rw [hr, cond_true] at h
      obtain ⟨h1, _⟩ := queue_back n r r' acc q h hb
      rw [hr] at h1; cases h1
    | false =>
      rw [hr, cond_false] at h
      generalize ht : takeP (shAt m sh).Fields.length r = t at h
      obtain ⟨r1, v⟩ := t
      obtain ⟨h1, q', rfl, h2, h3⟩ := queue_back n _ r' _ q h hb
      obtain ⟨_, h5, _⟩ := take_back ht h1
      exact ⟨rfl, v :: q', by simp, by simp [h2], by rw [h5, h3]; simp⟩
theorem chan_app {m : D.Model} {c : D.Chan} {rest : List Int} (h : chanP m c = true) (h16 : (shAt m c.Shape).Room ≤ 16) : chanD m (chanL c ++ rest, false) = ((rest, false), c) := by
  unfold chanP at h
  simp only [Bool.and_eq_true, decide_eq_true_eq] at h
  obtain ⟨⟨h1, h2⟩, h3⟩ := h
  have h1 := inP_iff.1 h1
  have hq : ∀ x ∈ c.Queue, x.length = (shAt m c.Shape).Fields.length := fun x hx => by
    have := (allL_iff (d := []) (f := fun x => typedP (shAt m c.Shape).Fields x)).1 h3 x hx
    unfold typedP at this
    simp only [Bool.and_eq_true, decide_eq_true_eq] at this
    exact this.1.symm
  unfold chanD chanL
  simp only [List.cons_append]
  rw [one_app h1.1 h1.2]
  simp only
  rw [one_app (by omega) (by omega)]
  simp only
  rw [show ((c.Queue.length : Int)).toNat = c.Queue.length by omega, queue_app c.Queue [] rest hq]
  simp
theorem chans_app {m : D.Model} : ∀ (l acc : List D.Chan) (rest : List Int), (∀ c ∈ l, chanP m c = true ∧ (shAt m c.Shape).Room ≤ 16) → chansD m l.length (l.flatMap chanL ++ rest, false) acc = ((rest, false), acc ++ l)
  | [], acc, rest, _ => by simp [chansD]
  | c :: l, acc, rest, h => by
    have hc := h c (List.mem_cons_self ..)
    show chansD m (l.length + 1) ((chanL c ++ l.flatMap chanL) ++ rest, false) acc = _
    unfold chansD
    rw [List.append_assoc, chan_app hc.1 hc.2]
    simp only
    rw [chans_app l (acc ++ [c]) rest fun y hy => h y (List.mem_cons_of_mem _ hy), List.append_assoc]
    rfl
theorem chan_back {m : D.Model} {r r' : Rdr} {c : D.Chan} (h : chanD m r = (r', c)) (hb : r'.2 = false) : r.2 = false ∧ r.1 = chanL c ++ r'.1 := by
  unfold chanD at h
  generalize h1 : oneP 0 m.Shapes.length r = a at h
  obtain ⟨r1, sh⟩ := a
  simp only at h
  generalize h2 : oneP 0 17 r1 = b at h
  obtain ⟨r2, n⟩ := b
  simp only at h
  generalize h3 : queueD m sh n.toNat r2 [] = d at h
  obtain ⟨r3, q⟩ := d
  simp only [Prod.mk.injEq] at h
  obtain ⟨rfl, rfl⟩ := h
  obtain ⟨b2, q', rfl, hl, e3⟩ := queue_back _ _ _ _ _ h3 hb
  obtain ⟨b1, e2, hn0, _⟩ := one_back h2 b2
  obtain ⟨b0, e1, _, _⟩ := one_back h1 b1
  refine ⟨b0, ?_⟩
  rw [e1, e2, e3]
  unfold chanL
  simp only [List.cons_append]
  rw [show ((q.length : Nat) : Int) = n by omega]
theorem chans_back {m : D.Model} : ∀ (n : Nat) (r r' : Rdr) (acc l : List D.Chan), chansD m n r acc = (r', l) → r'.2 = false → r.2 = false ∧ ∃ l', l = acc ++ l' ∧ l'.length = n ∧ r.1 = l'.flatMap chanL ++ r'.1
  | 0, r, r', acc, l, h, hb => by
    simp only [chansD, Prod.mk.injEq] at h
    obtain ⟨rfl, rfl⟩ := h
    exact ⟨hb, [], by simp, rfl, by simp⟩
  | n + 1, r, r', acc, l, h, hb => by
    unfold chansD at h
    generalize ht : chanD m r = t at h
    obtain ⟨r1, c⟩ := t
    obtain ⟨h1, l', rfl, h2, h3⟩ := chans_back n _ r' _ l h hb
    obtain ⟨h4, h5⟩ := chan_back ht h1
    exact ⟨h4, c :: l', by simp, by simp [h2], by rw [h5, h3]; simp⟩
theorem proc_app {m : D.Model} {p : D.Process} {rest : List Int} (h : processP m p = true) (h256 : (prAt m p.Type_).Locs.length ≤ 256) : procD m (procL p ++ rest, false) = ((rest, false), p) := by
  unfold processP at h
  simp only [Bool.and_eq_true, decide_eq_true_eq] at h
  obtain ⟨⟨⟨h1, h2⟩, h3⟩, h4⟩ := h
  have h2 := inP_iff.1 h2
  have ht : 0 ≤ p.Type_ ∧ p.Type_ < m.Procs.length := by unfold procP at h1; simp at h1; omega
  unfold typedP at h4
  simp only [Bool.and_eq_true, decide_eq_true_eq] at h4
  unfold procD procL
  simp only [List.cons_append]
  rw [one_app ht.1 ht.2]
  simp only
  rw [one_app h2.1 (by omega)]
  simp only
  rw [take_app h4.1.symm]
  simp only [← h3]
theorem procs_app {m : D.Model} : ∀ (l acc : List D.Process) (rest : List Int), (∀ p ∈ l, processP m p = true ∧ (prAt m p.Type_).Locs.length ≤ 256) → procsD m l.length (l.flatMap procL ++ rest, false) acc = ((rest, false), acc ++ l)
  | [], acc, rest, _ => by simp [procsD]
  | c :: l, acc, rest, h => by
    have hc := h c (List.mem_cons_self ..)
    show procsD m (l.length + 1) ((procL c ++ l.flatMap procL) ++ rest, false) acc = _
    unfold procsD
    rw [List.append_assoc, proc_app hc.1 hc.2]
    simp only
    rw [procs_app l (acc ++ [c]) rest fun y hy => h y (List.mem_cons_of_mem _ hy), List.append_assoc]
    rfl
theorem proc_back {m : D.Model} {r r' : Rdr} {p : D.Process} (h : procD m r = (r', p)) (hb : r'.2 = false) : r.2 = false ∧ r.1 = procL p ++ r'.1 := by
  unfold procD at h
  generalize h1 : oneP 0 m.Procs.length r = a at h
  obtain ⟨r1, ty⟩ := a
  simp only at h
  generalize h2 : oneP 0 256 r1 = b at h
  obtain ⟨r2, n⟩ := b
  simp only at h
  generalize h3 : takeP (prAt m ty).Frame.length r2 = d at h
  obtain ⟨r3, q⟩ := d
  simp only [Prod.mk.injEq] at h
  obtain ⟨rfl, rfl⟩ := h
  obtain ⟨b2, e3, _⟩ := take_back h3 hb
  obtain ⟨b1, e2, _, _⟩ := one_back h2 b2
  obtain ⟨b0, e1, _, _⟩ := one_back h1 b1
  exact ⟨b0, by rw [e1, e2, e3]; rfl⟩
theorem procs_back {m : D.Model} : ∀ (n : Nat) (r r' : Rdr) (acc l : List D.Process), procsD m n r acc = (r', l) → r'.2 = false → r.2 = false ∧ ∃ l', l = acc ++ l' ∧ l'.length = n ∧ r.1 = l'.flatMap procL ++ r'.1
  | 0, r, r', acc, l, h, hb => by
    simp only [procsD, Prod.mk.injEq] at h
    obtain ⟨rfl, rfl⟩ := h
    exact ⟨hb, [], by simp, rfl, by simp⟩
  | n + 1, r, r', acc, l, h, hb => by
    unfold procsD at h
    generalize ht : procD m r = t at h
    obtain ⟨r1, c⟩ := t
    obtain ⟨h1, l', rfl, h2, h3⟩ := procs_back n _ r' _ l h hb
    obtain ⟨h4, h5⟩ := proc_back ht h1
    exact ⟨h4, c :: l', by simp, by simp [h2], by rw [h5, h3]; simp⟩
/-- What is known of a model that may be. -/
structure Lim (m : D.Model) : Prop where
  room : ∀ k : Int, 0 ≤ k → k < m.Shapes.length → (shAt m k).Room ≤ 16
  locs : ∀ k : Int, 0 ≤ k → k < m.Procs.length → (prAt m k).Locs.length ≤ 256
  one : 1 ≤ m.Procs.length
  clp : m.Claim < m.Procs.length
theorem state_app {m : D.Model} {s : D.State} (hm : Lim m) (h : stFits m s = true) : stateD m (stateL s, false) = (([], false), s) := by
  unfold stFits at h
  simp only [Bool.and_eq_true] at h
  obtain ⟨⟨⟨h1, h2⟩, h3⟩, h4⟩ := h
  unfold headP at h1
  simp only [Bool.and_eq_true, decide_eq_true_eq] at h1
  obtain ⟨⟨⟨⟨⟨⟨g1, g2⟩, g3⟩, g4⟩, g5⟩, g6⟩, g7⟩ := h1
  unfold typedP at g1
  simp only [Bool.and_eq_true, decide_eq_true_eq] at g1
  have hc : ∀ c ∈ s.Chans, chanP m c = true ∧ (shAt m c.Shape).Room ≤ 16 := fun c hc => by
    have h := (allL_iff (d := default) (f := fun c => chanP m c)).1 h2 c hc
    refine ⟨h, ?_⟩
    unfold chanP at h
    simp only [Bool.and_eq_true] at h
    have := inP_iff.1 h.1.1
    exact hm.room _ this.1 this.2
  have hp : ∀ p ∈ s.Procs, processP m p = true ∧ (prAt m p.Type_).Locs.length ≤ 256 := fun p hp => by
    have h := (allL_iff (d := default) (f := fun c => processP m c)).1 h3 p hp
    refine ⟨h, ?_⟩
    unfold processP procP at h
    simp at h
    exact hm.locs _ (by omega) (by omega)
  have hcl : -1 ≤ s.Claim ∧ s.Claim < 256 := by
    unfold claimAt at h4
    by_cases hq : m.Claim < 0
    · simp only [hq, decide_true, cond_true, decide_eq_true_eq] at h4; omega
    · simp only [hq, decide_false, cond_false] at h4
      have := inP_iff.1 h4
      have := hm.locs m.Claim (by omega) hm.clp
      omega
  unfold stateD stateL
  simp only
  rw [take_app g1.1.symm]
  simp only
  rw [one_app (by omega) (by omega)]
  simp only
  rw [show ((s.Chans.length : Int)).toNat = s.Chans.length by omega, chans_app s.Chans [] _ hc]
  simp only [List.nil_append]
  rw [one_app (by omega) (by omega)]
  simp only
  rw [show ((s.Procs.length : Int)).toNat = s.Procs.length by omega, procs_app s.Procs [] _ hp]
  simp only [List.nil_append]
  rw [one_app g4 g5]
  simp only
  rw [one_app g6 (by omega)]
  simp only
  rw [one_app hcl.1 hcl.2]
theorem state_back {m : D.Model} {r : Rdr} {s : D.State} {l' : List Int} (h : stateD m r = ((l', false), s)) : r.2 = false ∧ r.1 = stateL s ++ l' := by
  unfold stateD at h
  generalize h1 : takeP m.Globals.length r = a1 at h
  obtain ⟨r1, g⟩ := a1
  simp only at h
  generalize h2 : oneP 0 33 r1 = a2 at h
  obtain ⟨r2, nc⟩ := a2
  simp only at h
  generalize h3 : chansD m nc.toNat r2 [] = a3 at h
  obtain ⟨r3, cs⟩ := a3
  simp only at h
  generalize h4 : oneP 0 17 r3 = a4 at h
  obtain ⟨r4, np⟩ := a4
  simp only at h
  generalize h5 : procsD m np.toNat r4 [] = a5 at h
  obtain ⟨r5, ps⟩ := a5
  simp only at h
  generalize h6 : oneP 0 16 r5 = a6 at h
  obtain ⟨r6, la⟩ := a6
  simp only at h
  generalize h7 : oneP (-1) 16 r6 = a7 at h
  obtain ⟨r7, al⟩ := a7
  simp only at h
  generalize h8 : oneP (-1) 256 r7 = a8 at h
  obtain ⟨r8, cl⟩ := a8
  simp only [Prod.mk.injEq] at h
  obtain ⟨rfl, rfl⟩ := h
  obtain ⟨b7, e8, _, _⟩ := one_back h8 rfl
  obtain ⟨b6, e7, _, _⟩ := one_back h7 b7
  obtain ⟨b5, e6, _, _⟩ := one_back h6 b6
  obtain ⟨b4, ps', rfl, hpl, e5⟩ := procs_back _ _ _ _ _ h5 b5
  obtain ⟨b3, e4, hn4, _⟩ := one_back h4 b4
  obtain ⟨b2, cs', rfl, hcl, e3⟩ := chans_back _ _ _ _ _ h3 b3
  obtain ⟨b1, e2, hn2, _⟩ := one_back h2 b2
  obtain ⟨b0, e1, _⟩ := take_back h1 b1
  refine ⟨b0, ?_⟩
  unfold stateL
  simp only [List.nil_append]
  rw [e1, e2, e3, e4, e5, e6, e7, e8, show ((cs.length : Nat) : Int) = nc by omega, show ((ps.length : Nat) : Int) = np by omega]
  simp
/-! ### The laws -/
theorem decode_encode {m : D.Model} {s : D.State} (hm : Lim m) (hs : ∀ n ∈ stateL s, I64 n) (hmay : mayP m = true) (h : stFits m s = true) : decodeP m (textP s) = (s, 0) := by
  have hr : readP (textP s) = (stateL s, false) := by
    unfold readP textP
    rw [bs_mk, scan_row _ _ hs]; rfl
  unfold decodeP
  rw [hr, state_app hm h, hmay]
  simp [h]
theorem encode_decode {m : D.Model} {t : ByteArray} {s : D.State} (h : decodeP m t = (s, 0)) : mayP m = true ∧ stFits m s = true ∧ textP s = t ∧ ∀ n ∈ stateL s, I64 n := by
  unfold decodeP at h
  cases hmay : mayP m with
  | false => rw [hmay, cond_false] at h; simp at h
  | true =>
    rw [hmay, cond_true] at h
    generalize hd : stateD m (readP t) = d at h
    obtain ⟨⟨l, b⟩, s'⟩ := d
    simp only at h
    cases hc : (b || (decide (0 < l.length) || !(stFits m s'))) with
    | true => rw [hc, cond_true] at h; simp at h
    | false =>
      rw [hc, cond_false] at h
      simp only [Prod.mk.injEq, and_true] at h
      subst h
      simp only [Bool.or_eq_false_iff, decide_eq_false_iff_not, Bool.not_eq_false'] at hc
      obtain ⟨rfl, hl, hf⟩ := hc
      have hnil : l = [] := List.eq_nil_of_length_eq_zero (by omega)
      subst hnil
      obtain ⟨e1, e2⟩ := state_back hd
      unfold readP at e1 e2
      rw [List.append_nil] at e2
      simp only [Bool.not_eq_false'] at e1
      have hsc : scanP [] [] (bs t) = (stateL s', true) := by rw [← e2, ← e1]
      obtain ⟨l', k1, k2, k3⟩ := scan_back _ _ _ _ hsc
      rw [List.nil_append] at k1 k3
      refine ⟨rfl, hf, ?_, by rw [k1]; exact k2⟩
      unfold textP
      rw [k1, ← k3, mk_bs]
theorem text_inj {m : D.Model} {s t : D.State} (hm : Lim m) (hs : ∀ n ∈ stateL s, I64 n) (ht : ∀ n ∈ stateL t, I64 n) (hmay : mayP m = true) (h : stFits m s = true) (k : stFits m t = true) (e : textP s = textP t) : s = t := by
  have h1 := decode_encode hm hs hmay h
  have h2 := decode_encode hm ht hmay k
  rw [e, h2] at h1
  simpa using h1.symm
end Go.Proofs.YtdjjlkekbphbaaaDoor
