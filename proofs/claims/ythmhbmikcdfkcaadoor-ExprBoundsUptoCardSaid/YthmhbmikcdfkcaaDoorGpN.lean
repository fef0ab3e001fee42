/-
  Texts, joined: EbN, EbL.
-/
import Derived.Test.YthmhbmikcdfkcaaDoorGpM
import Derived.Test.YthmhbmikcdfkcaaDoorGpK
import Derived.Test.YthmhbmikcdfkcaaDoorGpL
/-
  What layer 14's law shows of a small model.
-/
namespace Go.Proofs.YthmhbmikcdfkcaaDoor
open Go.RowKit
theorem print_spec {t : ByteArray} {l : List Int} {fz : Bool} (hI : ∀ n ∈ l, I64 n) (ht : t.size ≤ 1099511627776) (hU : (∃ c ∈ bs t, c = 117 ∨ c = 120 ∨ c = 111) → FmtU 10 ∧ FmtU 16 ∧ FmtU 8) :
    VSpec Tryd.prog 6 [] [strV t, encL_Int fz l] [] (strV (printP t l)) := by
  refine VSpec.hand ⟨_, Tryd.func6, rfl, by kernel_rfl⟩ fun w E vs hA hL hB _ hs0 => ?_
  obtain ⟨u1, us1, rfl, v1, hs0⟩ := hs0.cons_inv
  obtain ⟨u2, us2, rfl, v2, hs0⟩ := hs0.cons_inv
  obtain rfl := hs0.nil_inv
  obtain rfl := v1.sc_inv
  obtain ⟨ao, cap, rfl, h1, h2, h3⟩ := at_i v2
  refine (print_calls hL hB h1 h2 h3 hI ht hU).mono ?_
  rintro r w' ⟨rfl, hb⟩
  exact ⟨_, rfl, .sc, hb⟩
def numX (n : Int) : D.Expr := ⟨1, n, -1, -1, -1, ⟨0, 0, 0, 0, []⟩, [], []⟩
theorem num_spec (n : Int) : VSpec Tryd.prog 11 [] [intV n] [] (.agg (enc_Expr (numX n))) :=
  vspec_raw tb_ok mixed Tryd.func11 (by kernel_rfl) rfl (num_raw (numX n) n) ⟨trivial, VV.le_agg ⟨VV.le_refl _, VV.le_refl _, VV.le_refl _, VV.le_refl _, VV.le_refl _, VV.le_refl _, VV.le_refl _, VV.le_refl _, VV.le_refl _, VV.le_nil, VV.le_nil, VV.le_nil, trivial⟩⟩
def varX (i : Int) : D.Expr := ⟨2, 0, -1, -1, -1, ⟨0, 0, -1, -1, [⟨i, 3, 1⟩]⟩, [], []⟩
def showM : D.Model := ⟨[⟨8, false⟩, ⟨8, false⟩, ⟨8, false⟩], [4, 5, 6], [], [], [⟨ByteArray.empty, 0, [], [], [⟨[], [], false, false, false, false, false⟩], 0, 0, 0, 1, -1⟩], -1,
  [numX 2, varX 0, numX 7, numX 0, ⟨7, 0, 2, 3, -1, ⟨0, 0, 0, 0, []⟩, [], []⟩, numX 0, ⟨22, 0, 5, 4, -1, ⟨0, 0, 0, 0, []⟩, [], []⟩, numX 3, varX 7]⟩
def showE : D.Env := ⟨showM, ⟨[4, 5, 6], [], [], 0, -1, -1⟩, -1, false, []⟩
theorem wf_num {n : Int} (h : Ev.wInt .i64 n) : wf_Expr (numX n) := ⟨rfl, h, rfl, rfl, rfl, ⟨rfl, rfl, rfl, rfl, ⟨Nat.zero_le _, by intro y hy; cases hy⟩⟩, ⟨Nat.zero_le _, by intro y hy; cases hy⟩, ⟨Nat.zero_le _, by intro y hy; cases hy⟩⟩
theorem wf_varX {n : Int} (h : Ev.wInt .i64 n) : wf_Expr (varX n) := ⟨rfl, rfl, rfl, rfl, rfl, ⟨rfl, rfl, rfl, rfl, ⟨by show 1 ≤ 1048576; decide, by intro y hy; obtain rfl := List.mem_singleton.1 hy; exact ⟨h, rfl, rfl⟩⟩⟩, ⟨Nat.zero_le _, by intro y hy; cases hy⟩, ⟨Nat.zero_le _, by intro y hy; cases hy⟩⟩
theorem wf_two' {o a b : Int} (ho : Ev.wInt .i64 o) (ha : Ev.wInt .i64 a) (hb : Ev.wInt .i64 b) : wf_Expr ⟨o, 0, a, b, -1, ⟨0, 0, 0, 0, []⟩, [], []⟩ := ⟨ho, rfl, ha, hb, rfl, ⟨rfl, rfl, rfl, rfl, ⟨Nat.zero_le _, by intro y hy; cases hy⟩⟩, ⟨Nat.zero_le _, by intro y hy; cases hy⟩, ⟨Nat.zero_le _, by intro y hy; cases hy⟩⟩
theorem wf_show : wf_Model showM where
  Globals := ⟨by decide, by intro y hy; simp only [showM, List.mem_cons, List.not_mem_nil, or_false, or_self] at hy; subst hy; exact ⟨rfl, trivial⟩⟩
  Init := ⟨by decide, by intro y hy; simp only [showM, List.mem_cons, List.not_mem_nil, or_false] at hy; rcases hy with rfl | rfl | rfl <;> rfl⟩
  Shapes := ⟨by decide, by intro y hy; cases hy⟩
  Chans := ⟨by decide, by intro y hy; cases hy⟩
  Procs := ⟨by decide, by
    intro y hy; obtain rfl := List.mem_singleton.1 hy
    exact { Name := by decide, Params := rfl, Frame := ⟨by decide, by intro y hy; cases hy⟩, Init := ⟨by decide, by intro y hy; cases hy⟩, Locs := ⟨by decide, by intro y hy; obtain rfl := List.mem_singleton.1 hy; exact { Out := ⟨by decide, by intro y hy; cases hy⟩, Esc := ⟨by decide, by intro y hy; cases hy⟩, Atomic := trivial, Dstep := trivial, End := trivial, Accept := trivial, Progress := trivial }⟩, Start := rfl, Final := rfl, Active := rfl, Prio := rfl, Provided := rfl }⟩
  Claim := rfl
  Exprs := ⟨by decide, by
    intro y hy
    simp only [showM, List.mem_cons, List.not_mem_nil, or_false] at hy
    rcases hy with rfl | rfl | rfl | rfl | rfl | rfl | rfl | rfl | rfl
    · exact wf_num rfl
    · exact wf_varX rfl
    · exact wf_num rfl
    · exact wf_num rfl
    · exact wf_two' rfl rfl rfl
    · exact wf_num rfl
    · exact wf_two' rfl rfl rfl
    · exact wf_num rfl
    · exact wf_varX rfl⟩
theorem small_show : SmallS' showE.S := Fit.small ⟨by decide, by decide, fun c hc => (by cases hc), by decide, fun p hp => (by cases hp)⟩
theorem ev_1 : evalP showE 1 = (6, 0) := by kernel_rfl
theorem ev_4 : evalP showE 4 = (0, 48) := by kernel_rfl
theorem ev_6 : evalP showE 6 = (0, 0) := by kernel_rfl
theorem ev_8 : evalP showE 8 = (0, 47) := by kernel_rfl
theorem ch_5 : echanP showE 5 = (0, 49) := by kernel_rfl
theorem pr_s : printP ⟨#[97, 37, 100, 37, 37, 37, 99, 37, 113]⟩ [5, 66] = ⟨#[97, 53, 37, 66, 37, 113]⟩ := by kernel_rfl
theorem plain_vII {p : Int × Int} : PlainV (vII p) := plain_tup fun x hx => by
  simp only [List.mem_cons, List.not_mem_nil, or_false] at hx
  rcases hx with rfl | rfl <;> exact plain_sc
theorem shown_spec : VSpec Tryd.prog 5 [] [] [] (boolV true) := by
  have e1 := eeval_spec (e := showE) wf_show small_show 1
  have e4 := eeval_spec (e := showE) wf_show small_show 4
  have e6 := eeval_spec (e := showE) wf_show small_show 6
  have e8 := eeval_spec (e := showE) wf_show small_show 8
  have c5 := echan_spec (e := showE) wf_show small_show 5
  rw [ev_1] at e1
  rw [ev_4] at e4
  rw [ev_6] at e6
  rw [ev_8] at e8
  rw [ch_5] at c5
  have pr := print_spec (t := ⟨#[97, 37, 100, 37, 37, 37, 99, 37, 113]⟩) (l := [5, 66]) (fz := true) (by intro n hn; simp only [List.mem_cons, List.not_mem_nil, or_false] at hn; unfold I64; omega) (by decide) (by
    rintro ⟨c, hc, h⟩
    exfalso
    have hc : c ∈ [(97 : UInt8), 37, 100, 37, 37, 37, 99, 37, 113] := hc
    simp only [List.mem_cons, List.not_mem_nil, or_false] at hc
    rcases h with rfl | rfl | rfl <;> revert hc <;> decide)
  rw [pr_s] at pr
  exact vspec_raw tb_ok mixed Tryd.func5 (by kernel_rfl) rfl (shown_raw true) ⟨numX 2, num_spec 2, numX 7, num_spec 7, numX 0, num_spec 0, numX 0, num_spec 0, numX 3, num_spec 3,
    (6, 0), e1.thawn 6 plain_vII (by kernel_rfl), (0, 48), e4.thawn 6 plain_vII (by kernel_rfl), (0, 0), e6.thawn 6 plain_vII (by kernel_rfl), (0, 47), e8.thawn 6 plain_vII (by kernel_rfl), (0, 49), c5.thawn 6 plain_vII (by kernel_rfl),
    ⟨#[97, 53, 37, 66, 37, 113]⟩, pr.thawn 6 plain_sc (by kernel_rfl), leafB (by kernel_rfl)⟩
end Go.Proofs.YthmhbmikcdfkcaaDoor
/-
  Layer 14 on trees: the law ExprBounds answers true.
-/
namespace Go.Proofs.YthmhbmikcdfkcaaDoor
open Go.RowKit
theorem bad_no {n op : Int} (h : B33 n) (ht : truthOp op = true → n = 0 ∨ n = 1) :
    (bif bif decide (n < (-2147483648 : Int)) then true else decide (n > (4294967295 : Int)) then true else bif bif bif bif bif bif bif bif bif bif bif decide (op ≥ (13 : Int)) then decide (op ≤ (18 : Int)) else false then true else op == (4 : Int) then true else op == (22 : Int) then true else op == (23 : Int) then true else bif decide (op ≥ (26 : Int)) then decide (op ≤ (30 : Int)) else false then true else op == (34 : Int) then true else op == (35 : Int) then true else op == (36 : Int) then true else op == (38 : Int) then n != (0 : Int) else false then n != (1 : Int) else false) = false := by
  simp only [bif_or, bif_and]
  rw [Bool.eq_false_iff]
  intro hc
  unfold B33 at h
  simp only [Bool.or_eq_true, Bool.and_eq_true, decide_eq_true_eq, bne_iff_ne, beq_iff_eq] at hc
  rcases hc with (hc | hc) | ⟨⟨h1, h2⟩, h3⟩
  · omega
  · omega
  · have := ht (by simp only [truthOp, Bool.or_eq_true, decide_eq_true_eq]; omega)
    omega
theorem law_spec {e : D.Env} (z : Int) (he : wf_Env e) : VSpec Tryd.prog 4 [] [.agg (enc_Env e), intV z] [] (boolV true) := by
  have hw := he.M
  have hS := small_of he.S
  refine vspec_raw tb_ok mixed Tryd.func4 (by kernel_rfl) rfl (law_raw true e z) ⟨true, shown_spec, fun h => absurd h (by simp), fun _ => ?_⟩
  change SatC _ [1, 1, 1, 0, 1, 0] (stLaw e z 0)
  refine loop_raw tb_ok mixed (fun gg st => ∃ k : Nat, k ≤ 201 ∧ gg = 201 - k ∧ st = stLaw e z k) (by kernel_rfl) (by kernel_rfl) ⟨201, Up.of ⟨0, Nat.zero_le _, rfl, rfl⟩⟩ ?_
  rintro gg st ⟨k, hk, rfl, rfl⟩
  refine Asks.raw (law1_raw true e z k _) ⟨fun hc => ?_, fun _ => leafB rfl⟩
  rw [bif_and] at hc
  simp only [Bool.and_eq_true, decide_eq_true_eq] at hc
  have hk2 : k < e.M.Exprs.length := by omega
  have next : ∃ g', g' < 201 - k ∧ Up (fun st => ∃ k : Nat, k ≤ 201 ∧ g' = 201 - k ∧ st = stLaw e z k) (stLaw e z (IntKind.i64.wrap ((k : Int) + 1))) := by
    rw [wrap_succ (by omega)]
    exact ⟨201 - (k + 1), by omega, Up.of ⟨k + 1, by omega, rfl, rfl⟩⟩
  have hq := evalP_b33 hw (k : Int)
  refine ⟨evalP e k, eeval_spec hw hS k, fun _ => next, fun h0 => ?_⟩
  have h0 : (evalP e k).2 = 0 := by simpa using h0
  obtain ⟨hq1, hq2⟩ := hq h0
  refine ⟨⟨by omega, by omega⟩, fun hbad => ?_, fun _ => ⟨fun _ => next, fun hop => ?_⟩⟩
  · exact Bool.noConfusion (hbad.symm.trans (bad_no hq1 hq2))
  have ho : (exAt e.M k).Op = 2 := by
    have : ((e.M.Exprs.getD (k : Int).toNat default).Op != (2 : Int)) = false := hop
    simpa [exAt] using this
  have hs := evalP_var h0 ho
  have hst := storeP_ok (e := e) (x := k) z hs
  have hfit := storeP_fit (e := e) (x := k) hw z
  refine ⟨slotP e k, eslot_spec hw hS k, storeP e k z, store_spec hw hS k z, fun hb => ?_, fun _ => ?_⟩
  · rw [hst] at hb; exact absurd hb (by simp)
  generalize (storeP e k z).1 = s' at hfit ⊢
  have hwo : wf_Model ({ e with S := s' } : D.Env).M := hw
  refine ⟨slotP { e with S := s' } k, eslot_spec (e := { e with S := s' }) hwo hfit.small k, evalP { e with S := s' } k, eeval_spec (e := { e with S := s' }) hwo hfit.small k, fun hsame => ?_, fun _ => next⟩
  rw [bif_and, bif_and] at hsame
  simp only [Bool.and_eq_true, beq_iff_eq] at hsame
  have hz := hsame.1.1
  have hin := slotP_in (e := { e with S := s' }) hwo hz
  have hev := evalP_slot (e := { e with S := s' }) hz ho
  rw [hev]
  generalize slotP { e with S := s' } k = sl at hin ⊢
  refine ⟨fun hneg => ?_, fun hpos => ?_⟩
  · have hr := hin.glob (of_decide_eq_true hneg)
    refine ⟨hr, fun hb => ?_, fun _ => next⟩
    unfold gotP at hb
    rw [hneg] at hb
    simp at hb
  · have hnn : 0 ≤ sl.1 := by have := of_decide_eq_false hpos; omega
    obtain ⟨r1, r2, r3⟩ := hin.own hnn
    refine ⟨⟨hnn, r1⟩, ⟨r2, r3⟩, fun hb => ?_, fun _ => next⟩
    unfold gotP psAt at hb
    rw [hpos] at hb
    simp at hb
end Go.Proofs.YthmhbmikcdfkcaaDoor
