/-
  Layer 12 on trees: what is shown at a small model.
-/
import Derived.Test.YtdjjlkekbphbaaaDoorStFir
namespace Go.Proofs.YtdjjlkekbphbaaaDoor
open Go.RowKit
theorem wf_two : wf_Model twoM where
  Globals := ⟨by decide, by intro y hy; obtain rfl := List.mem_singleton.1 hy; exact ⟨rfl, trivial⟩⟩
  Init := ⟨by decide, by intro y hy; obtain rfl := List.mem_singleton.1 hy; rfl⟩
  Shapes := ⟨by decide, by intro y hy; cases hy⟩
  Chans := ⟨by decide, by intro y hy; cases hy⟩
  Procs := ⟨by decide, by
    intro y hy; obtain rfl := List.mem_singleton.1 hy
    exact { Name := by decide, Params := rfl, Frame := ⟨by decide, by intro y hy; cases hy⟩, Init := ⟨by decide, by intro y hy; cases hy⟩, Locs := ⟨by decide, by intro y hy; obtain rfl := List.mem_singleton.1 hy; exact { Out := ⟨by decide, by intro y hy; cases hy⟩, Esc := ⟨by decide, by intro y hy; cases hy⟩, Atomic := trivial, Dstep := trivial, End := trivial, Accept := trivial, Progress := trivial }⟩, Start := rfl, Final := rfl, Active := rfl, Prio := rfl, Provided := rfl }⟩
  Claim := rfl
  Exprs := ⟨by decide, by intro y hy; cases hy⟩
def twoS : D.State := ⟨[3], [], [⟨0, 0, 1, []⟩, ⟨0, 0, 1, []⟩], 0, -1, -1⟩
theorem first_two : VSpec Tryd.prog 16 [] [.agg (enc_Model twoM)] [] (.tup [.agg (enc_State twoS), intV 0]) :=
  first_spec (p := ⟨ByteArray.empty, 0, [], [], [⟨[], [], false, false, false, false, false⟩], 0, 0, 2, 1, -1⟩) wf_two may_two rfl rfl rfl rfl rfl
theorem small_two : SmallS' twoS := Fit.small ⟨by decide, by decide, fun c hc => (by cases hc), by decide, fun p hp => by
  obtain rfl : p = ⟨0, 0, 1, []⟩ := by simpa [twoS] using hp
  decide⟩
theorem nums_two : ∀ n ∈ stateL twoS, I64 n := by
  intro n hn
  have : n ∈ [(3 : Int), 0, 2, 0, 0, 0, 0, 0, -1, -1] := hn
  simp only [List.mem_cons, List.not_mem_nil, or_false] at this
  unfold I64
  omega
def twoT : ByteArray := ⟨#[51, 44, 48, 44, 50, 44, 48, 44, 48, 44, 48, 44, 48, 44, 48, 44, 45, 49, 44, 45, 49, 44]⟩
theorem enc_two : encodeP twoM twoS = (twoT, 0) := by kernel_rfl
theorem dec_two : decodeP twoM twoT = (twoS, 0) := by kernel_rfl
theorem dec_two0 : decodeP twoM (⟨#[48]⟩ ++ twoT) = (zeroSt, 41) := by kernel_rfl
theorem dec_two1 : decodeP twoM (twoT.extract 0 21) = (zeroSt, 41) := by kernel_rfl
theorem shown_spec : VSpec Tryd.prog 6 [] [] [] (boolV true) := by
  refine vspec_raw tb_ok mixed Tryd.func6 (by kernel_rfl) rfl (shown_raw true) ⟨twoM, two_spec, (twoS, 0), first_two, twoM, two_spec, encodeP twoM twoS, encode_spec wf_two small_two nums_two, twoM, two_spec, (twoS, 0), ?_, twoM, two_spec, ?_, (zeroSt, 41), ?_, twoM, two_spec, ?_, (zeroSt, 41), ?_, decide (twoS = twoS), same_spec small_two, leafB (by kernel_rfl)⟩
  · rw [enc_two]
    have := decode_spec (m := twoM) (t := twoT) wf_two (by decide)
    rw [dec_two] at this
    exact this
  · rw [enc_two]; decide
  · rw [enc_two]
    have := decode_spec (m := twoM) (t := ⟨#[48]⟩ ++ twoT) wf_two (by decide)
    rw [dec_two0] at this
    exact this
  · rw [enc_two]; decide
  · rw [enc_two]
    have := decode_spec (m := twoM) (t := twoT.extract 0 21) wf_two (by decide)
    rw [dec_two1] at this
    exact this
end Go.Proofs.YtdjjlkekbphbaaaDoor
