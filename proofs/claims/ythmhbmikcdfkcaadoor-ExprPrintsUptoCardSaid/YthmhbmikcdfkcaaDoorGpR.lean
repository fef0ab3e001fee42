/-
  Texts, joined: EpN, EpL.
-/
import Derived.Test.YthmhbmikcdfkcaaDoorEpX
import Derived.Test.YthmhbmikcdfkcaaDoorGpK
import Derived.Test.YthmhbmikcdfkcaaDoorGpL
/-
  What layer 14's law shows of a small model (for ExprPrints).
-/
namespace Go.Proofs.YthmhbmikcdfkcaaDoor
open Go.RowKit
theorem print_spec {t : ByteArray} {l : List Int} {fz : Bool} (hI : ∀ n ∈ l, I64 n) (ht : t.size ≤ 1099511627776) (hU : (∃ c ∈ bs t, c = 117 ∨ c = 120 ∨ c = 111) → FmtU 10 ∧ FmtU 16 ∧ FmtU 8) :
    VSpec Tryd.prog 6 [] [strV t, encL_Int fz l] [] (strV (printP t l)) := by
  refine VSpec.hand ⟨_, Tryd.func6, rfl, by kernel_rfl⟩ fun w E vs hA hL hB _ hs0 => ?_
  obtain ⟨u1, us1, rfl, v1, hs0⟩ := hs0.cons_inv
  obtain ⟨u2, us2, rfl, v2, hs0⟩ := hs0.cons_inv
  obtain rfl := hs0.nil_inv
  obtain rfl := v1.sc_inv
  obtain ⟨ao, cap, rfl, h1, h2, h3⟩ := at_i v2
  refine (print_calls hL hB h1 h2 h3 hI ht hU).mono ?_
  rintro r w' ⟨rfl, hb⟩
  exact ⟨_, rfl, .sc, hb⟩
def numX (n : Int) : D.Expr := ⟨1, n, -1, -1, -1, ⟨0, 0, 0, 0, []⟩, [], []⟩
theorem num_spec (n : Int) : VSpec Tryd.prog 11 [] [intV n] [] (.agg (enc_Expr (numX n))) :=
  vspec_raw tb_ok mixed Tryd.func11 (by kernel_rfl) rfl (num_raw (numX n) n) ⟨trivial, VV.le_agg ⟨VV.le_refl _, VV.le_refl _, VV.le_refl _, VV.le_refl _, VV.le_refl _, VV.le_refl _, VV.le_refl _, VV.le_refl _, VV.le_refl _, VV.le_nil, VV.le_nil, VV.le_nil, trivial⟩⟩
def varX (i : Int) : D.Expr := ⟨2, 0, -1, -1, -1, ⟨0, 0, -1, -1, [⟨i, 3, 1⟩]⟩, [], []⟩
def showM : D.Model := ⟨[⟨8, false⟩, ⟨8, false⟩, ⟨8, false⟩], [4, 5, 6], [], [], [⟨ByteArray.empty, 0, [], [], [⟨[], [], false, false, false, false, false⟩], 0, 0, 0, 1, -1⟩], -1,
  [numX 2, varX 0, numX 7, numX 0, ⟨7, 0, 2, 3, -1, ⟨0, 0, 0, 0, []⟩, [], []⟩, numX 0, ⟨22, 0, 5, 4, -1, ⟨0, 0, 0, 0, []⟩, [], []⟩, numX 3, varX 7]⟩
def showE : D.Env := ⟨showM, ⟨[4, 5, 6], [], [], 0, -1, -1⟩, -1, false, []⟩
theorem wf_num {n : Int} (h : Ev.wInt .i64 n) : wf_Expr (numX n) := ⟨rfl, h, rfl, rfl, rfl, ⟨rfl, rfl, rfl, rfl, ⟨Nat.zero_le _, by intro y hy; cases hy⟩⟩, ⟨Nat.zero_le _, by intro y hy; cases hy⟩, ⟨Nat.zero_le _, by intro y hy; cases hy⟩⟩
theorem wf_varX {n : Int} (h : Ev.wInt .i64 n) : wf_Expr (varX n) := ⟨rfl, rfl, rfl, rfl, rfl, ⟨rfl, rfl, rfl, rfl, ⟨by show 1 ≤ 1048576; decide, by intro y hy; obtain rfl := List.mem_singleton.1 hy; exact ⟨h, rfl, rfl⟩⟩⟩, ⟨Nat.zero_le _, by intro y hy; cases hy⟩, ⟨Nat.zero_le _, by intro y hy; cases hy⟩⟩
theorem wf_two' {o a b : Int} (ho : Ev.wInt .i64 o) (ha : Ev.wInt .i64 a) (hb : Ev.wInt .i64 b) : wf_Expr ⟨o, 0, a, b, -1, ⟨0, 0, 0, 0, []⟩, [], []⟩ := ⟨ho, rfl, ha, hb, rfl, ⟨rfl, rfl, rfl, rfl, ⟨Nat.zero_le _, by intro y hy; cases hy⟩⟩, ⟨Nat.zero_le _, by intro y hy; cases hy⟩, ⟨Nat.zero_le _, by intro y hy; cases hy⟩⟩
theorem wf_show : wf_Model showM where
  Globals := ⟨by decide, by intro y hy; simp only [showM, List.mem_cons, List.not_mem_nil, or_false, or_self] at hy; subst hy; exact ⟨rfl, trivial⟩⟩
  Init := ⟨by decide, by intro y hy; simp only [showM, List.mem_cons, List.not_mem_nil, or_false] at hy; rcases hy with rfl | rfl | rfl <;> rfl⟩
  Shapes := ⟨by decide, by intro y hy; cases hy⟩
  Chans := ⟨by decide, by intro y hy; cases hy⟩
  Procs := ⟨by decide, by
    intro y hy; obtain rfl := List.mem_singleton.1 hy
    exact { Name := by decide, Params := rfl, Frame := ⟨by decide, by intro y hy; cases hy⟩, Init := ⟨by decide, by intro y hy; cases hy⟩, Locs := ⟨by decide, by intro y hy; obtain rfl := List.mem_singleton.1 hy; exact { Out := ⟨by decide, by intro y hy; cases hy⟩, Esc := ⟨by decide, by intro y hy; cases hy⟩, Atomic := trivial, Dstep := trivial, End := trivial, Accept := trivial, Progress := trivial }⟩, Start := rfl, Final := rfl, Active := rfl, Prio := rfl, Provided := rfl }⟩
  Claim := rfl
  Exprs := ⟨by decide, by
    intro y hy
    simp only [showM, List.mem_cons, List.not_mem_nil, or_false] at hy
    rcases hy with rfl | rfl | rfl | rfl | rfl | rfl | rfl | rfl | rfl
    · exact wf_num rfl
    · exact wf_varX rfl
    · exact wf_num rfl
    · exact wf_num rfl
    · exact wf_two' rfl rfl rfl
    · exact wf_num rfl
    · exact wf_two' rfl rfl rfl
    · exact wf_num rfl
    · exact wf_varX rfl⟩
theorem small_show : SmallS' showE.S := Fit.small ⟨by decide, by decide, fun c hc => (by cases hc), by decide, fun p hp => (by cases hp)⟩
theorem ev_1 : evalP showE 1 = (6, 0) := by kernel_rfl
theorem ev_4 : evalP showE 4 = (0, 48) := by kernel_rfl
theorem ev_6 : evalP showE 6 = (0, 0) := by kernel_rfl
theorem ev_8 : evalP showE 8 = (0, 47) := by kernel_rfl
theorem ch_5 : echanP showE 5 = (0, 49) := by kernel_rfl
theorem pr_s : printP ⟨#[97, 37, 100, 37, 37, 37, 99, 37, 113]⟩ [5, 66] = ⟨#[97, 53, 37, 66, 37, 113]⟩ := by kernel_rfl
theorem plain_vII {p : Int × Int} : PlainV (vII p) := plain_tup fun x hx => by
  simp only [List.mem_cons, List.not_mem_nil, or_false] at hx
  rcases hx with rfl | rfl <;> exact plain_sc
theorem shown_spec : VSpec Tryd.prog 5 [] [] [] (boolV true) := by
  have e1 := eeval_spec (e := showE) wf_show small_show 1
  have e4 := eeval_spec (e := showE) wf_show small_show 4
  have e6 := eeval_spec (e := showE) wf_show small_show 6
  have e8 := eeval_spec (e := showE) wf_show small_show 8
  have c5 := echan_spec (e := showE) wf_show small_show 5
  rw [ev_1] at e1
  rw [ev_4] at e4
  rw [ev_6] at e6
  rw [ev_8] at e8
  rw [ch_5] at c5
  have pr := print_spec (t := ⟨#[97, 37, 100, 37, 37, 37, 99, 37, 113]⟩) (l := [5, 66]) (fz := true) (by intro n hn; simp only [List.mem_cons, List.not_mem_nil, or_false] at hn; unfold I64; omega) (by decide) (by
    rintro ⟨c, hc, h⟩
    exfalso
    have hc : c ∈ [(97 : UInt8), 37, 100, 37, 37, 37, 99, 37, 113] := hc
    simp only [List.mem_cons, List.not_mem_nil, or_false] at hc
    rcases h with rfl | rfl | rfl <;> revert hc <;> decide)
  rw [pr_s] at pr
  exact vspec_raw tb_ok mixed Tryd.func5 (by kernel_rfl) rfl (shown_raw true) ⟨numX 2, num_spec 2, numX 7, num_spec 7, numX 0, num_spec 0, numX 0, num_spec 0, numX 3, num_spec 3,
    (6, 0), e1.thawn 6 plain_vII (by kernel_rfl), (0, 48), e4.thawn 6 plain_vII (by kernel_rfl), (0, 0), e6.thawn 6 plain_vII (by kernel_rfl), (0, 47), e8.thawn 6 plain_vII (by kernel_rfl), (0, 49), c5.thawn 6 plain_vII (by kernel_rfl),
    ⟨#[97, 53, 37, 66, 37, 113]⟩, pr.thawn 6 plain_sc (by kernel_rfl), leafB (by kernel_rfl)⟩
end Go.Proofs.YthmhbmikcdfkcaaDoor
/-
  Layer 14 on trees: the law ExprPrints answers true.
-/
namespace Go.Proofs.YthmhbmikcdfkcaaDoor
open Go.RowKit
theorem rprint_spec {t : ByteArray} {l : List Int} (hI : ∀ n ∈ l, I64 n) (ht : t.size ≤ 1099511627776) :
    VSpec Tryd.prog 7 [] [strV t, encL_Int true l] [] (strV (printP t l)) := by
  refine VSpec.hand ⟨_, Tryd.func7, rfl, by kernel_rfl⟩ fun w E vs hA hL hB _ hs0 => ?_
  obtain ⟨u1, us1, rfl, v1, hs0⟩ := hs0.cons_inv
  obtain ⟨u2, us2, rfl, v2, hs0⟩ := hs0.cons_inv
  obtain rfl := hs0.nil_inv
  obtain rfl := v1.sc_inv
  obtain ⟨ao, cap, rfl, h1, h2, h3⟩ := at_i v2
  refine (rprint_calls hL hB h1 h2 h3 hI ht).mono ?_
  rintro r w' ⟨rfl, hb⟩
  exact ⟨_, rfl, .sc, hb⟩
theorem plaw_spec {t : ByteArray} {l : List Int} (hl : wfL_Int l) (ht : t.size ≤ 1048576) : VSpec Tryd.prog 3 [] [strV t, encL_Int true l] [] (boolV true) := by
  have hI : ∀ n ∈ l, I64 n := fun n hn => wf_in (hl.2 n hn)
  exact vspec_raw tb_ok mixed Tryd.func3 (by kernel_rfl) rfl (plaw_raw true t l) ⟨true, shown_spec, printP t l, fun _ => print_spec hI (by omega) (fun _ => ⟨fmt_10, fmt_16, fmt_8⟩), printP t l, fun _ => rprint_spec hI (by omega), leafB (by simp)⟩
end Go.Proofs.YthmhbmikcdfkcaaDoor
