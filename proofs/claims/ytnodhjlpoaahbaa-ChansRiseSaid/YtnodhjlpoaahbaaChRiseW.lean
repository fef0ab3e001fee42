/-
  ChansRise on trees: it returns true, for every shape and messages.
-/
import Derived.Test.YtnodhjlpoaahbaaChRiseR
import Derived.IntWalk
namespace Go.Proofs.Ytnodhjlpoaahbaa
open Go.RowKit

theorem wrap_id {n : Int} (h1 : -9223372036854775808 ≤ n) (h2 : n ≤ 9223372036854775807) : IntKind.i64.wrap n = n := IntWalk.i64_in n ⟨h1, h2⟩
theorem fitP_range (b : Int) (s : Bool) (v : Int) : -2147483648 ≤ fitP b s v ∧ fitP b s v ≤ 4294967295 := by
  unfold fitP
  split
  · rename_i h
    have hp := pow_bd b h.1 h.2
    have e : (2 : Int) ^ b.toNat / 2 ≤ 2147483648 := by omega
    split
    · have h1 := Int.emod_nonneg (v + 2 ^ b.toNat / 2) (show (2 : Int) ^ b.toNat ≠ 0 by omega)
      have h2 := Int.emod_lt_of_pos (v + 2 ^ b.toNat / 2) (show (0 : Int) < 2 ^ b.toNat by omega)
      omega
    · have h1 := Int.emod_nonneg v (show (2 : Int) ^ b.toNat ≠ 0 by omega)
      have h2 := Int.emod_lt_of_pos v (show (0 : Int) < 2 ^ b.toNat by omega)
      omega
  · omega
theorem fitM_wf (fs : List D.Type) (m : List Int) : WfM (fitM fs m) := by
  intro x hx
  unfold fitM at hx
  obtain ⟨i, hi, rfl⟩ := List.getElem_of_mem hx
  simp only [List.getElem_zipWith]
  have := fitP_range (fs[i]'(by simp at hi; omega)).Bits (fs[i]'(by simp at hi; omega)).Signed (m[i]'(by simp at hi; omega))
  rw [wf_i64]; omega
theorem RiseI.wf {room : Int} {fs : List D.Type} {q : List (List Int)} (h : RiseI room fs q) : WfQ q := fun y hy => by
  rw [← (h.fit y hy).2]; exact fitM_wf fs y
theorem RiseI.drop_wf {room : Int} {fs : List D.Type} {q : List (List Int)} (h : RiseI room fs q) (i : Nat) : WfQ (q.drop i) := fun y hy => h.wf y (List.mem_of_mem_drop hy)
theorem putSh_0 (room : Int) (fs : List D.Type) (q : List (List Int)) (m : List Int) : putSh room fs q m 0 = 0 := by unfold putSh; split <;> rfl
theorem putE_0 {room : Int} {fs : List D.Type} {q : List (List Int)} {m : List Int} (h : (putE room fs q m == 0) = true) : putE room fs q m = 0 := by simpa using h

theorem rise_spec {room : Int} {fs : List D.Type} {l : List (List Int)} (hfs : WfTs fs) (hl : WfQ l) (hsl : Small l) (hfl : fs.length * 8 ≤ 140737488355328) :
    VSpec Try.prog 8 [encShape room fs, encQ l] (.sc (.bool true)) := by
  refine vspec_of tb_ok mixed shRise annRise Try.func8 (by kernel_rfl) (by kernel_rfl) ((rise_raw room fs l).mpr ⟨true, shown_spec, ?_⟩)
  refine Sat.le (l' := [(1, encQ l), (2, .bp 0 0), (5, .sc (.bool true)), (6, .bp 1 0), (7, .bp 2 0), (8, .sc (.int .i64 0))]) (hs' := [[.sc (.int .i64 room), encTs fs], [.sc (.int .i64 0), encQ []], [.sc (.int .i64 0), encQ []]])
    ⟨rfl, VV.le_refl _, rfl, VV.le_refl _, rfl, VV.le_refl _, rfl, VV.le_refl _, rfl, VV.le_refl _, rfl, VV.le_refl _, trivial⟩ ⟨⟨VV.le_refl _, VV.le_refl _, trivial⟩, ⟨VV.le_refl _, VV.le_nil, trivial⟩, ⟨VV.le_refl _, VV.le_nil, trivial⟩, trivial⟩ ?_
  have hl1 := hsl.1
  refine sat_loop tb_ok mixed (subC [1, 1, 1, 1, 0, 1, 0, 0] (bodyOf Try.f8)) shRise annRise [1, 2, 5, 6, 7, 8] 3
    (fun g st => ∃ (k : Nat) (qa : List (List Int)), k ≤ l.length ∧ g = l.length - k ∧ qa.length ≤ k ∧ RiseI room fs qa ∧ st = stRise room fs 0 0 qa [] true [(1, encQ l), (2, .bp 0 0), (5, .sc (.bool true)), (6, .bp 1 0), (7, .bp 2 0), (8, .sc (.int .i64 k))])
    (by kernel_rfl) (by kernel_rfl) ⟨_, 0, [], Nat.zero_le _, rfl, Nat.le_refl _, RiseI.nil _ _, rfl⟩ ?_
  rintro g st ⟨k, qa, hk, rfl, hqk, hri, rfl⟩
  have hw : k < l.length → IntKind.i64.wrap ((k : Int) + 1) = ((k + 1 : Nat) : Int) := fun h => by rw [wrap_id (by omega) (by omega)]; omega
  have hsm : Small qa := ⟨by omega, fun y hy => by rw [(hri.fit y hy).1]; exact hfl⟩
  refine (rise1_raw room fs l true 0 0 k qa [] _).mpr ⟨fun hlt => ?_, fun hge => ?_⟩
  · have hlt' : k < l.length := by simpa using hlt
    have hm : l.getD (k : Int).toNat [] ∈ l := by simp [List.getD, hlt']
    refine ⟨⟨by omega, by omega⟩, (putSh room fs qa (l.getD (k : Int).toNat []) 0, putQ room fs qa (l.getD (k : Int).toNat []) true, putE room fs qa (l.getD (k : Int).toNat [])),
      put_spec room 0 true hfs hri.wf (hl _ hm) hsm (by omega) (hsl.2 _ hm), fun he => ?_, fun he => ?_⟩
    · have he' := putE_0 he
      have e1 : riseS room fs qa (l.getD (k : Int).toNat []) = putQ room fs qa (l.getD (k : Int).toNat []) true := by unfold riseS putQ; rw [if_pos he', if_pos he']
      have h1 := hri.step (l.getD (k : Int).toNat [])
      have h2 := riseS_len room fs qa (l.getD (k : Int).toNat []) k hqk
      rw [e1] at h1 h2
      refine ⟨l.length - (k + 1), by omega, k + 1, _, by omega, rfl, h2, h1, ?_⟩
      rw [hw hlt', putSh_0]; rfl
    · refine ⟨l.length - (k + 1), by omega, k + 1, qa, by omega, rfl, by omega, hri, ?_⟩
      rw [hw hlt']; rfl
  · clear hw hge
    have hq0 : IntKind.i64.wrap ((qa.length : Int) - 1) = (qa.length : Int) - 1 := wrap_id (by omega) (by omega)
    refine sat_loop tb_ok mixed (subC [1, 1, 1, 1, 1, 0, 1, 0, 0] (bodyOf Try.f8)) shRise annRise [2, 5, 6, 7, 11] 3
      (fun g st => ∃ (i : Nat), i ≤ qa.length ∧ g = i ∧ st = stRise room fs 0 0 qa (qa.drop i) true [(2, .bp 0 0), (5, .sc (.bool true)), (6, .bp 1 0), (7, .bp 2 0), (11, .sc (.int .i64 ((i : Int) - 1)))])
      (by kernel_rfl) (by kernel_rfl) ⟨_, qa.length, Nat.le_refl _, rfl, by rw [hq0, List.drop_length]; rfl⟩ ?_
    rintro g st ⟨i, hi, rfl, rfl⟩
    refine (rise2_raw room fs true 0 0 ((g : Int) - 1) qa (qa.drop g) _).mpr ⟨fun hge => ?_, fun hlt => ?_⟩
    · have hg : 1 ≤ g := by have : (g : Int) - 1 ≥ 0 := by simpa using hge
                            omega
      obtain ⟨i, rfl⟩ : ∃ i, g = i + 1 := ⟨g - 1, by omega⟩
      have hn : (((i + 1 : Nat) : Int) - 1).toNat = i := by omega
      have hii : i < qa.length := by omega
      have hm : qa.getD i [] ∈ qa := by simp [List.getD, hii]
      obtain ⟨a1, a2⟩ := hri.again i hii
      have hwf := hri.wf
      refine ⟨⟨by omega, by omega⟩, (putSh room fs (qa.drop (i + 1)) (qa.getD i []) 0, putQ room fs (qa.drop (i + 1)) (qa.getD i []) true, putE room fs (qa.drop (i + 1)) (qa.getD i [])), ?_, fun he => ?_, fun he => ?_⟩
      · rw [hn]
        exact put_spec room 0 true hfs (hri.drop_wf _) (hwf _ hm) ⟨by simp; omega, fun y hy => hsm.2 y (List.mem_of_mem_drop hy)⟩ (by simp; omega) (hsm.2 _ hm)
      · have he' : (putE room fs (qa.drop (i + 1)) (qa.getD i []) != 0) = true := he
        rw [a1] at he'; cases he'
      · refine ⟨i, by omega, i, by omega, rfl, ?_⟩
        have e1 : putQ room fs (qa.drop (i + 1)) (qa.getD i []) true = qa.drop i := by unfold putQ; rw [if_pos a1, a2]
        have e2 : IntKind.i64.wrap (((i + 1 : Nat) : Int) - 1 - 1) = (i : Int) - 1 := by rw [wrap_id (by omega) (by omega)]; omega
        rw [e2, putSh_0, e1]; rfl
    · have hg : g = 0 := by have : ¬ ((g : Int) - 1 ≥ 0) := by simpa using hlt
                            omega
      subst hg
      rw [List.drop_zero]
      refine sat_loop tb_ok mixed (subC [1, 1, 1, 1, 1, 1, 0, 1, 0, 0] (bodyOf Try.f8)) shRise annRise [5, 6, 7, 14] 3
        (fun g st => ∃ (i : Nat), 1 ≤ i ∧ g = qa.length + 1 - i ∧ i ≤ qa.length + 1 ∧ st = stRise room fs 0 0 qa qa true [(5, .sc (.bool true)), (6, .bp 1 0), (7, .bp 2 0), (14, .sc (.int .i64 i))])
        (by kernel_rfl) (by kernel_rfl) ⟨_, 1, Nat.le_refl _, rfl, by omega, rfl⟩ ?_
      rintro g st ⟨i, hi1, rfl, hi2, rfl⟩
      refine (rise3_raw room fs true 0 0 i qa qa _).mpr ⟨fun hlt => ?_, fun hge => ?_⟩
      · have hlt' : i < qa.length := by simpa using hlt
        have e1 : IntKind.i64.wrap ((i : Int) - 1) = ((i - 1 : Nat) : Int) := by rw [wrap_id (by omega) (by omega)]; omega
        have hm1 : qa.getD (i : Int).toNat [] ∈ qa := by simp [List.getD, hlt']
        have hm2 : qa.getD ((i - 1 : Nat) : Int).toNat [] ∈ qa := by simp [List.getD, show i - 1 < qa.length by omega]
        have hless : lessP (qa.getD (i : Int).toNat []) (qa.getD ((i - 1 : Nat) : Int).toNat []) = false := by
          have := hri.next (i - 1) (by omega)
          rw [show i - 1 + 1 = i by omega] at this
          simpa using this
        rw [e1]
        refine ⟨⟨by omega, by omega⟩, ⟨by omega, by omega⟩, _, less_spec (hri.wf _ hm1) (hri.wf _ hm2), fun he => ?_, fun _ => ?_⟩
        · rw [hless] at he; cases he
        · refine ⟨qa.length + 1 - (i + 1), by omega, i + 1, by omega, rfl, by omega, ?_⟩
          have e2 : IntKind.i64.wrap ((i : Int) + 1) = ((i + 1 : Nat) : Int) := by rw [wrap_id (by omega) (by omega)]; omega
          rw [e2]; rfl
      · exact ⟨true, same_spec 0 hri.wf, true, rtype_spec ⟨8, false⟩, rfl⟩
end Go.Proofs.Ytnodhjlpoaahbaa
