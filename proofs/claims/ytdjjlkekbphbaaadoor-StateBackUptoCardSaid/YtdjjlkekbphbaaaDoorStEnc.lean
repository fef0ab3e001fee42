/-
  A state as text: the contracts of state.text and state.Encode.
-/
import Derived.Test.YtdjjlkekbphbaaaDoorStTex2
import Derived.Test.YtdjjlkekbphbaaaDoorStW3
namespace Go.Proofs.YtdjjlkekbphbaaaDoor
open Go.RowKit
theorem agg_parts {w : World} {E : Prot} {m : Option Phi} {cs : List VV} {v : Value} (h : V w E m (.agg cs) v) : ∃ vs, v = .agg vs ∧ vs.size = cs.length ∧ ∀ (j : Nat) x, cs[j]? = some x → V w E m x (vs.getD j undef) := by
  cases h with
  | agg h1 h2 => exact ⟨_, rfl, h1, h2⟩
theorem arr_six {vs : Array Value} (h : vs.size = 6) : vs = #[vs.getD 0 undef, vs.getD 1 undef, vs.getD 2 undef, vs.getD 3 undef, vs.getD 4 undef, vs.getD 5 undef] := by
  obtain ⟨l⟩ := vs
  match l, h with
  | [a, b, c, d, e, f], _ => rfl
theorem text_spec {s : D.State} (hs : StOk s) : VSpec Tryd.prog 20 [] [.agg (enc_State s)] [] (strV (textP s)) := by
  refine VSpec.hand ⟨_, Tryd.func20, rfl, by kernel_rfl⟩ fun w E vs hA hL hlB _ hs' => ?_
  obtain ⟨u1, us1, rfl, v1, hs'⟩ := hs'.cons_inv
  obtain rfl := hs'.nil_inv
  obtain ⟨vs, rfl, hsz, hv⟩ := agg_parts v1
  have h0 := IntsAt.of (hv 0 _ rfl)
  have h1 := CsAt.of (hv 1 _ rfl)
  have h2 := PsAt.of (hv 2 _ rfl)
  have h3 := (hv 3 _ rfl).sc_inv
  have h4 := (hv 4 _ rfl).sc_inv
  have h5 := (hv 5 _ rfl).sc_inv
  rw [arr_six hsz, h3, h4, h5]
  refine (text_calls hs hL hlB h0 h1 h2).mono ?_
  rintro e w' ⟨rfl, hb⟩
  refine ⟨_, rfl, ?_, hb⟩
  have : Txt (stateL s) = textP s := by
    unfold Txt emptyB textP
    rw [mk_append, List.nil_append]
  rw [this]
  exact .sc

/-! ### A state that fits is small -/
theorem flat_len {α β : Type} {f : α → List β} {B : Nat} : ∀ {l : List α}, (∀ x ∈ l, (f x).length ≤ B) → (l.flatMap f).length ≤ l.length * B
  | [], _ => by simp
  | x :: l, h => by
    have h1 := h x (List.mem_cons_self ..)
    have h2 := flat_len (l := l) fun y hy => h y (List.mem_cons_of_mem _ hy)
    simp only [List.flatMap_cons, List.length_append, List.length_cons, Nat.add_mul, Nat.one_mul]
    omega
theorem flatten_len {β : Type} {B : Nat} {l : List (List β)} (h : ∀ x ∈ l, x.length ≤ B) : l.flatten.length ≤ l.length * B := by
  have := flat_len (f := id) h
  simpa using this
structure Fit (s : D.State) : Prop where
  g : s.Globals.length ≤ 128
  c : s.Chans.length ≤ 32
  q : ∀ c ∈ s.Chans, c.Queue.length ≤ 16 ∧ ∀ x ∈ c.Queue, x.length ≤ 8
  p : s.Procs.length ≤ 16
  f : ∀ p ∈ s.Procs, p.Frame.length ≤ 128
theorem typed_len {t : List D.Type} {l : List Int} (h : typedP t l = true) : l.length = t.length := by
  unfold typedP at h
  simp only [Bool.and_eq_true, decide_eq_true_eq] at h
  exact h.1.symm
theorem fit_of {m : D.Model} {s : D.State} (hmay : mayP m = true) (h : stFits m s = true) : Fit s := by
  have hm := lim_of hmay
  obtain ⟨ht1, ht2, _⟩ := ok_tables hmay
  have ht := tab_ok ht1
  unfold stFits at h
  simp only [Bool.and_eq_true] at h
  obtain ⟨⟨⟨h1, h2⟩, h3⟩, h4⟩ := h
  unfold headP at h1
  simp only [Bool.and_eq_true, decide_eq_true_eq] at h1
  obtain ⟨⟨⟨⟨⟨⟨g1, g2⟩, g3⟩, g4⟩, g5⟩, g6⟩, g7⟩ := h1
  refine ⟨?_, g2, fun c hc => ?_, g3, fun p hp => ?_⟩
  · rw [typed_len g1]; exact ht.globals
  · have h := (allL_iff (d := default) (f := fun c => chanP m c)).1 h2 c hc
    unfold chanP at h
    simp only [Bool.and_eq_true, decide_eq_true_eq] at h
    have hi := inP_iff.1 h.1.1
    have hr := hm.room _ hi.1 hi.2
    refine ⟨by omega, fun x hx => ?_⟩
    have hq := (allL_iff (d := []) (f := fun x => typedP (shAt m c.Shape).Fields x)).1 h.2 x hx
    rw [typed_len hq]
    have := ht.shape c.Shape.toNat (by omega)
    unfold shapeP at this
    simp only [Bool.and_eq_true, decide_eq_true_eq] at this
    exact this.1.2
  · have h := (allL_iff (d := default) (f := fun c => processP m c)).1 h3 p hp
    unfold processP procP at h
    simp only [Bool.and_eq_true, decide_eq_true_eq] at h
    rw [typed_len h.2]
    have := (frame_all ht2 p.Type_.toNat (by omega)).1
    unfold frameP at this
    simp only [Bool.and_eq_true, decide_eq_true_eq] at this
    exact this.1.1.1.1.1.1.1.1
theorem Fit.len {s : D.State} (h : Fit s) : (stateL s).length ≤ 6400 := by
  have h1 : (s.Chans.flatMap chanL).length ≤ s.Chans.length * (2 + 16 * 8) := flat_len fun c hc => by
    have := flatten_len (h.q c hc).2
    have h2 := (h.q c hc).1
    have h3 := Nat.mul_le_mul_right 8 h2
    simp only [chanL, List.length_cons]
    omega
  have h2 : (s.Procs.flatMap procL).length ≤ s.Procs.length * (2 + 128) := flat_len fun p hp => by
    have := h.f p hp
    simp only [procL, List.length_cons]
    omega
  have h3 := Nat.mul_le_mul_right (2 + 16 * 8) h.c
  have h4 := Nat.mul_le_mul_right (2 + 128) h.p
  have h5 := h.g
  unfold stateL
  simp only [List.length_append, List.length_cons, List.length_nil]
  omega
theorem Fit.small {s : D.State} (h : Fit s) : SmallS' s := by
  have hg := h.g
  have hc := h.c
  have hp := h.p
  refine ⟨by unfold Len; omega, by unfold Len; omega, by unfold Len; omega, fun c hc => ⟨by have := (h.q c hc).1; unfold Len; omega, fun x hx => by have := (h.q c hc).2 x hx; unfold Len; omega⟩, fun p hp => by have := h.f p hp; unfold Len; omega⟩
theorem small_of {s : D.State} (h : wf_State s) : SmallS' s := by
  have hg := h.Globals.1
  have hc := h.Chans.1
  have hp := h.Procs.1
  refine ⟨by unfold Len; omega, by unfold Len; omega, by unfold Len; omega, fun c hc => ⟨by have := (h.Chans.2 c hc).Queue.1; unfold Len; omega, fun x hx => by have := ((h.Chans.2 c hc).Queue.2 x hx).1; unfold Len; omega⟩, fun p hp => by have := (h.Procs.2 p hp).Frame.1; unfold Len; omega⟩
theorem nums_of {s : D.State} (h : wf_State s) : ∀ n ∈ stateL s, I64 n := by
  have wi : ∀ n : Int, Ev.wInt .i64 n → I64 n := fun n h => by unfold Ev.wInt Lit.wf at h; simp only [Bool.and_eq_true, decide_eq_true_eq] at h; exact h
  have wl : ∀ n : Nat, n ≤ 1048576 → I64 (n : Int) := fun n h => by unfold I64; omega
  intro n hn
  unfold stateL at hn
  simp only [List.mem_append, List.mem_cons, List.not_mem_nil, or_false, List.mem_flatMap] at hn
  rcases hn with hn | rfl | ⟨c, hc, hn⟩ | rfl | ⟨p, hp, hn⟩ | rfl | rfl | rfl
  · exact wi _ (h.Globals.2 n hn)
  · exact wl _ h.Chans.1
  · have hcw := h.Chans.2 c hc
    simp only [chanL, List.mem_cons, List.mem_flatten] at hn
    rcases hn with rfl | rfl | ⟨x, hx, hn⟩
    · exact wi _ hcw.Shape
    · exact wl _ hcw.Queue.1
    · exact wi _ ((hcw.Queue.2 x hx).2 n hn)
  · exact wl _ h.Procs.1
  · have hpw := h.Procs.2 p hp
    simp only [procL, List.mem_cons] at hn
    rcases hn with rfl | rfl | hn
    · exact wi _ hpw.Type_
    · exact wi _ hpw.Loc
    · exact wi _ (hpw.Frame.2 n hn)
  · exact wi _ h.Last
  · exact wi _ h.Alone
  · exact wi _ h.Claim
theorem check_zero {m : D.Model} {s : D.State} (h : stCheck m s = 0) : mayP m = true ∧ stFits m s = true := by
  unfold stCheck at h
  cases h1 : mayP m <;> cases h2 : stFits m s <;> simp [h1, h2] at h ⊢
theorem leafS {a c : ByteArray} {b d : Int} (h : (a, b) = (c, d)) : leO [] [] ∧ VV.le (.tup [.sc (.string a), .sc (.int .i64 b)]) (.tup [.sc (.string c), .sc (.int .i64 d)]) := by
  obtain ⟨rfl, rfl⟩ := Prod.mk.inj h
  exact ⟨trivial, VV.le_refl _⟩
theorem encode_spec {m : D.Model} {s : D.State} (hw : wf_Model m) (hs : SmallS' s) (hn : ∀ n ∈ stateL s, I64 n) : VSpec Tryd.prog 7 [] [.agg (enc_Model m), .agg (enc_State s)] [] (.tup [strV (encodeP m s).1, intV (encodeP m s).2]) := by
  refine vspec_raw tb_ok mixed Tryd.func7 (by kernel_rfl) rfl (encode_raw _ _ m s) ⟨stCheck m s, stcheck_spec hw hs (fun h => (lim_of h).clp), fun h => leafS ?_, fun h => ?_⟩
  · unfold encodeP
    rw [decide_eq_false (by simpa using h)]; rfl
  · have h0 : stCheck m s = 0 := by simpa using h
    obtain ⟨h1, h2⟩ := check_zero h0
    have hf := fit_of h1 h2
    refine ⟨textP s, text_spec ⟨hn, Nat.le_trans hf.len (by decide)⟩, leafS ?_⟩
    unfold encodeP; rw [decide_eq_true h0]; rfl
end Go.Proofs.YtdjjlkekbphbaaaDoor
