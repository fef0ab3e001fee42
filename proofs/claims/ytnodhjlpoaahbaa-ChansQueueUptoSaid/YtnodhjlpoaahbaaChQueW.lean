/-
  ChansQueue on trees: it returns true, for every shape and messages.
-/
import Derived.Test.YtnodhjlpoaahbaaChQueR
import Derived.IntWalk
namespace Go.Proofs.Ytnodhjlpoaahbaa
open Go.RowKit

theorem wrap_id {n : Int} (h1 : -9223372036854775808 ≤ n) (h2 : n ≤ 9223372036854775807) : IntKind.i64.wrap n = n := IntWalk.i64_in n ⟨h1, h2⟩
theorem fitP_range (b : Int) (s : Bool) (v : Int) : -2147483648 ≤ fitP b s v ∧ fitP b s v ≤ 4294967295 := by
  unfold fitP
  split
  · rename_i h
    have hp := pow_bd b h.1 h.2
    have e : (2 : Int) ^ b.toNat / 2 ≤ 2147483648 := by omega
    split
    · have h1 := Int.emod_nonneg (v + 2 ^ b.toNat / 2) (show (2 : Int) ^ b.toNat ≠ 0 by omega)
      have h2 := Int.emod_lt_of_pos (v + 2 ^ b.toNat / 2) (show (0 : Int) < 2 ^ b.toNat by omega)
      omega
    · have h1 := Int.emod_nonneg v (show (2 : Int) ^ b.toNat ≠ 0 by omega)
      have h2 := Int.emod_lt_of_pos v (show (0 : Int) < 2 ^ b.toNat by omega)
      omega
  · omega
theorem fitM_wf (fs : List D.Type) (m : List Int) : WfM (fitM fs m) := by
  intro x hx
  unfold fitM at hx
  obtain ⟨i, hi, rfl⟩ := List.getElem_of_mem hx
  simp only [List.getElem_zipWith]
  have := fitP_range (fs[i]'(by simp at hi; omega)).Bits (fs[i]'(by simp at hi; omega)).Signed (m[i]'(by simp at hi; omega))
  rw [wf_i64]; omega
/-- What has been put: as many at most as were handed in, each of the shape's length. -/
structure QueI (fs : List D.Type) (q : List (List Int)) : Prop where
  wf : WfQ q
  len : ∀ y ∈ q, y.length = fs.length
theorem putSh_0 (room : Int) (fs : List D.Type) (q : List (List Int)) (m : List Int) : putSh room fs q m 0 = 0 := by unfold putSh; split <;> rfl
theorem putE_0 {room : Int} {fs : List D.Type} {q : List (List Int)} {m : List Int} (h : putE room fs q m = 0) : m.length = fs.length ∧ (q.length : Int) < room ∧ putQ room fs q m false = q ++ [fitM fs m] := by
  have hq : putQ room fs q m false = q ++ [fitM fs m] := by
    unfold putQ putX putAt
    rw [if_pos h]
    simp
  unfold putE at h
  split at h
  · cases h
  · rename_i h1
    split at h
    · cases h
    · split at h
      · cases h
      · rename_i h3; exact ⟨by omega, by omega, hq⟩
theorem cutAt_drop (q : List (List Int)) (i : Nat) : cutAt (q.drop i) 0 = q.drop (i + 1) := by
  unfold cutAt
  simp [List.drop_drop]

theorem que_spec {room : Int} {fs : List D.Type} {l : List (List Int)} (hfs : WfTs fs) (hl : WfQ l) (hsl : Small l) (hfl : fs.length * 8 ≤ 140737488355328) :
    VSpec Try.prog 7 [] [encShape room fs, encQ l] [] (.sc (.bool true)) := by
  have hl1 := hsl.1
  refine vspec_ctx tb_ok mixed shQue annQue true Try.func7 (by kernel_rfl) rfl ((que_raw room fs l).mpr ⟨true, shown_spec, ?_⟩)
  refine SatC.own 4 7 1 (rowsQ []) rfl ?_
  refine satC_loop tb_ok mixed (fun g st => ∃ (k : Nat) (q : List (List Int)), k ≤ l.length ∧ g = l.length - k ∧ q.length ≤ k ∧ QueI fs q ∧ st = stQue1 room fs l true 0 q k)
    (by kernel_rfl) (by kernel_rfl) ⟨_, stQue1 room fs l true 0 [] (0 : Nat), StLe.mk' (leT_refl _) ⟨Ob.le_refl _, Ob.le_box ⟨VV.le_refl _, VV.le_nil, trivial⟩, Ob.le_refl _, trivial⟩, 0, [], Nat.zero_le _, rfl, Nat.le_refl _, ⟨by simp [WfQ], by simp⟩, rfl⟩ ?_
  rintro g st ⟨k, q, hk, rfl, hqk, hri, rfl⟩
  have hw : k < l.length → IntKind.i64.wrap ((k : Int) + 1) = ((k + 1 : Nat) : Int) := fun h => by rw [wrap_id (by omega) (by omega)]; omega
  have hsm : Small q := ⟨by omega, fun y hy => by rw [hri.len y hy]; exact hfl⟩
  refine (que1_raw room fs l true 0 q k _).mpr ⟨fun hlt => ?_, fun hge => ?_⟩
  · have hlt' : k < l.length := by simpa using hlt
    have hm : l.getD (k : Int).toNat [] ∈ l := by simp [List.getD, hlt']
    refine ⟨⟨by omega, by omega⟩, (putSh room fs q (l.getD (k : Int).toNat []) 0, putQ room fs q (l.getD (k : Int).toNat []) false, putE room fs q (l.getD (k : Int).toNat [])),
      put_spec room 0 false hfs hri.wf (hl _ hm) hsm (by omega) (hsl.2 _ hm), fun _ => ?_, fun he => ?_⟩
    · exact ⟨l.length - (k + 1), by omega, Up.of ⟨k + 1, q, by omega, rfl, by omega, hri, by rw [hw hlt']; rfl⟩⟩
    · have he0 : putE room fs q (l.getD (k : Int).toNat []) = 0 := by simpa using he
      obtain ⟨h1, h2, h3⟩ := putE_0 he0
      rw [h3, putSh_0]
      generalize l.getD (k : Int).toNat [] = m at *
      have hwq : IntKind.i64.wrap ((q.length : Int) + 1) = (q.length : Int) + 1 := wrap_id (by omega) (by omega)
      have hlen : ((q ++ [fitM fs m]).length : Int) = (q.length : Int) + 1 := by simp
      have hfm : (fitM fs m).length = fs.length := by simp [fitM, h1]
      simp only [hlen, hwq]
      have hwq2 : IntKind.i64.wrap ((q.length : Int) + 1 - 1) = (q.length : Int) := by rw [wrap_id (by omega) (by omega)]; omega
      rw [hwq2]
      refine ⟨fun hbad => ?_, fun _ => ⟨⟨by omega, by omega⟩, by omega, l.length - (k + 1), by omega, Up.mk (l' := [(1, encQ l), (2, .bp 0 0), (5, .sc (.bool true)), (6, .bp 1 0), (7, .ow 2 0 (q ++ [fitM fs m]).length), (8, .sc (.int .i64 ((k + 1 : Nat) : Int)))])
        (hs' := [.box [.sc (.int .i64 room), encTs fs], .box [.sc (.int .i64 0), encQ (q ++ [fitM fs m])], .arr true 0 (q ++ [fitM fs m]).length 1 (rowsQ (q ++ [fitM fs m]))]) ?_ ?_
        ⟨k + 1, q ++ [fitM fs m], by omega, rfl, by simp; omega, ⟨?_, ?_⟩, rfl⟩⟩⟩
      · simp only [bne_self_eq_false, cond_false, decide_eq_true_eq] at hbad
        omega
      · rw [hw hlt']
        exact ⟨⟨rfl, VV.le_refl _⟩, ⟨rfl, VV.le_refl _⟩, ⟨rfl, VV.le_refl _⟩, ⟨rfl, VV.le_refl _⟩, ⟨rfl, VV.le_eq (by simp)⟩, ⟨rfl, VV.le_refl _⟩, trivial⟩
      · refine ⟨Ob.le_refl _, Ob.le_refl _, ?_, trivial⟩
        have hn : (q ++ [fitM fs m]).length = q.length + 1 := by simp
        rw [hn]
        refine Ob.le_arr fun i hi => leL_eq ?_
        unfold rowsQ
        by_cases hiq : i < q.length
        · have hb : Nat.blt i q.length = true := Nat.ble_eq_true_of_le hiq
          simp only [hb, cond_true, List.getD_eq_getElem?_getD, List.getElem?_append_left hiq]
          rfl
        · have hiq' : i = q.length := by omega
          subst hiq'
          have hb : Nat.blt q.length q.length = false := by
            cases hq : Nat.blt q.length q.length with
            | true => have := Nat.le_of_ble_eq_true hq; omega
            | false => rfl
          simp only [hb, cond_false, Nat.sub_self, Nat.zero_mul, List.drop_zero, List.take_succ_cons, List.take_zero, Int.toNat_natCast]
          rfl
      · intro y hy
        rcases List.mem_append.1 hy with hy | hy
        · exact hri.wf y hy
        · simp only [List.mem_singleton] at hy; subst hy; exact fitM_wf fs m
      · intro y hy
        rcases List.mem_append.1 hy with hy | hy
        · exact hri.len y hy
        · simp only [List.mem_singleton] at hy; subst hy; exact hfm
  · clear hw hge
    refine satC_loop tb_ok mixed (fun g st => ∃ (i : Nat), i ≤ q.length ∧ g = q.length - i ∧ st = stQue2 true 0 (q.drop i) q i)
      (by kernel_rfl) (by kernel_rfl) ⟨_, Up.of ⟨0, Nat.zero_le _, rfl, rfl⟩⟩ ?_
    rintro g st ⟨i, hi, rfl, rfl⟩
    have hwd : WfQ (q.drop i) := fun y hy => hri.wf y (List.mem_of_mem_drop hy)
    refine (que2_raw true 0 (q.drop i) q i _).mpr ⟨fun hlt => ?_, fun hge => ?_⟩
    · have hlt' : i < q.length := by simpa using hlt
      have hget : (q.drop i).getD 0 [] = q.getD i [] := by simp [List.getD]
      have hwi : IntKind.i64.wrap ((i : Int) + 1) = ((i + 1 : Nat) : Int) := by rw [wrap_id (by omega) (by omega)]; omega
      have hm : q.getD i [] ∈ q := by simp [List.getD, hlt']
      refine ⟨(0, cutAt (q.drop i) 0, (q.drop i).getD 0 [], 0), take_spec 0 0 hwd ⟨by simp; omega, fun y hy => hsm.2 y (List.mem_of_mem_drop hy)⟩ (by simp; omega), ⟨by omega, by omega⟩, true, ?_, fun hbad => by simp at hbad, fun _ => ⟨q.length - (i + 1), by omega, Up.of ⟨i + 1, by omega, rfl, ?_⟩⟩⟩
      · rw [hget]
        exact numbers_spec (fz := true) (fz' := true) (hri.wf _ hm)
      · rw [hwi, cutAt_drop]; rfl
    · have hge' : q.length ≤ i := by simpa using hge
      obtain rfl : i = q.length := by omega
      exact ⟨(0, [], [], 46), take_none_spec 0 0 hwd (.inr (by simp)), trivial, VV.le_refl _⟩
end Go.Proofs.Ytnodhjlpoaahbaa
