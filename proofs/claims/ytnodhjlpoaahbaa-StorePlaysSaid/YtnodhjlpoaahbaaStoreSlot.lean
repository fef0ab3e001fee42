/-
  The walks of layer 18's hash and slot: where a text lies in the table, or would lie.
-/
import Derived.Test.YtnodhjlpoaahbaaRows
import Derived.Test.YtnodhjlpoaahbaaScope
import Derived.Test.YtnodhjlpoaahbaaStorePlain
import Derived.WalkKit
import Derived.WalkSpells
import Derived.WalkLawsBesides
import Derived.BigQuiet
import Derived.Deep.QuietTactic
import Derived.Lib.Hide
import Derived.OneCell
import Derived.ChangeKeysEq
namespace Go.Proofs.Ytnodhjlpoaahbaa
open Go.RowKit
theorem ret_nat {k : IntKind} {a b : Int} (h : a = b) : Ending.returned (.int k a) = .returned (.int k b) := by rw [h]
theorem bytes_ne {a b : ByteArray} (h : a ≠ b) : (a.toList == b.toList) = false := by
  simp [ByteArray.toList_eq]
  intro he
  exact h (ByteArray.ext he)
set_option maxHeartbeats 400000 in
theorem hash_any (s : ByteArray) (w : World) (hs : s.size ≤ maxLen) :
    Calls Try.prog 53 #[.string s] w fun e w' => e = .returned (.int .u64 (hashN s : Nat)) ∧ w' = w := by
  rw [hashN_eq]
  unfold maxLen at hs
  go_enter Try.func53, Try.ntmps53
  go_wp2
  go_loop [3, 7] (fun h i => ∃ k : Nat, k ≤ s.size ∧ i = .int .i64 k ∧ h = .int .u64 (hashTo s k)) (fun _ i => s.size - (intOf i).toNat)
  case atStart => exact ⟨0, Nat.zero_le _, rfl, rfl⟩
  case round =>
    obtain ⟨k, hk, rfl, rfl⟩ := hrel
    by_cases hlt : k < s.size
    · go_wp2
      go_round
      case rel => exact ⟨k + 1, by omega, by go_num, by simp only [hashTo, hlt, dif_pos]⟩
      case measure => simp [intOf]; omega
    · obtain rfl : k = s.size := by omega
      go_wp2
      go_ret
      exact ⟨rfl, rfl⟩
def KeysAt (w : World) (kv : Value) (ks : List ByteArray) : Prop := ∃ ka kc, kv = .slice ka ks.length kc ∧ (0 < ks.length → ∃ kb, ka = some ⟨kb, 0, none⟩ ∧ ∀ j < ks.length, w.cell? ⟨kb, j, none⟩ = some (.string (ks.getD j default)))

/-- What holds whenever the run comes to the label 'again': d places have been looked at; g are left at the most. -/
def SlotJ (B : Nat) (ks : List ByteArray) (sl : List Nat) (key : ByteArray) (dz : Nat) (w : World) (g : Nat) (a : Act) (w' : World) : Prop :=
  ∃ d : Nat, d + g = dz ∧ Probed ks sl key d ∧ (∃ n, w' = w.drewN n) ∧ ∃ u2 u3 u6 u7 u8 u9 u10 u11 u12 u13 u14 u15 u16 u17 u18 u19 u20 u21 u22 u23 u24 u25 u26 u27 u28 u29 u30 u31 u32 u33 u34 u35 u36 u37 u38 u39 u40 u41 u42 u43 u44 u45 u46 : Value, a = { tmps := #[.pointer (some ⟨B, 0, none⟩), .string key, u2, u3, .int .i64 0, .int .i64 (((hashN key + d) % sl.length : Nat) : Int), u6, u7, u8, u9, u10, u11, u12, u13, u14, u15, u16, u17, u18, u19, u20, u21, u22, u23, u24, u25, u26, u27, u28, u29, u30, u31, u32, u33, u34, u35, u36, u37, u38, u39, u40, u41, u42, u43, u44, u45, u46], defers := [] }
set_option maxRecDepth 100000 in
set_option maxHeartbeats 400000 in
theorem slot_any (B sb : Nat) (kv : Value) (ks : List ByteArray) (sl : List Nat) (m : Nat) (key : ByteArray) (w : World) (hkey : key.size ≤ maxLen)
    (h1 : w.cell? ⟨B, 1, none⟩ = some kv) (h3 : w.cell? ⟨B, 3, none⟩ = some (.slice (some ⟨sb, 0, none⟩) sl.length sl.length))
    (hk : KeysAt w kv ks) (hs : ∀ j < sl.length, w.cell? ⟨sb, j, none⟩ = some (.int .i64 ((sl.getD j 0 : Nat) : Int))) (ht : Tab ks m sl) (hm : m ≤ ks.length) (hlt : m < sl.length) (hL : sl.length ≤ 1099511627776) :
    Calls Try.prog 37 #[.pointer (some ⟨B, 0, none⟩), .string key] w fun e w' => (∃ i : Nat, e = .returned (.int .i64 i) ∧ SlotAt ks sl key i) ∧ ∃ n, w' = w.drewN n := by
  have hp := ht.pos
  have hh := hashN_lt key
  obtain ⟨dz, hdz, hzero⟩ := ht.room hlt (hashN key)
  go_enter Try.func37, Try.ntmps37
  go_wp2
  have hm0 : 0 ≤ ((hashN key : Nat) : Int) % (sl.length : Int) := Int.emod_nonneg _ (by omega)
  have hm1 : ((hashN key : Nat) : Int) % (sl.length : Int) < sl.length := Int.emod_lt_of_pos _ (by omega)
  refine wp_scope_again 0 (SlotJ B ks sl key dz w) rfl ?_ ?_
  · go_wp2
    go_quiet ((go_at_call 53; exact Calls.quiet_of_same (hash_any _ _ hkey)))
    go_wp2
    have e0 : ((hashN key : Nat) : Int) % (sl.length : Int) = (((hashN key + 0) % sl.length : Nat) : Int) := by simp
    rw [e0]
    exact ⟨dz, 0, by omega, Probed.zero _ _ _, ⟨nq, rfl⟩, _, _, _, _, _, _, _, _, _, _, _, _, _, _, _, _, _, _, _, _, _, _, _, _, _, _, _, _, _, _, _, _, _, _, _, _, _, _, _, _, _, _, _, rfl⟩
  · clear hm0 hm1
    rintro g a' w' ⟨d, hd, hpr, ⟨nq, rfl⟩, u2, u3, u6, u7, u8, u9, u10, u11, u12, u13, u14, u15, u16, u17, u18, u19, u20, u21, u22, u23, u24, u25, u26, u27, u28, u29, u30, u31, u32, u33, u34, u35, u36, u37, u38, u39, u40, u41, u42, u43, u44, u45, u46, rfl⟩
    have hi : (hashN key + d) % sl.length < sl.length := Nat.mod_lt _ hp
    by_cases hz : sl.getD ((hashN key + d) % sl.length) 0 = 0
    · have hcell := hs _ hi
      rw [hz] at hcell
      have HE : Hid (SlotAt ks sl key ((hashN key + d) % sl.length)) := ⟨d, rfl, hpr, .inl hz⟩
      clear hz hs hzero
      generalize (hashN key + d) % sl.length = i at *
      go_wp2
      rw [jump_ret]
      go_ret
      exact ⟨⟨_, rfl, HE.out⟩, _, rfl⟩
    · have hle := ht.le ((hashN key + d) % sl.length)
      obtain ⟨ka, kc, rfl, hk2⟩ := hk
      obtain ⟨kb, rfl, hkc⟩ := hk2 (by omega)
      have hcell := hs _ hi
      have hstep : ((hashN key + d) % sl.length + 1) % sl.length = (hashN key + (d + 1)) % sl.length := by rw [Nat.mod_add_mod]; rfl
      have hdlt : d < dz := by
        rcases Nat.lt_or_ge d dz with h | h
        · exact h
        · exact absurd (by rw [show d = dz by omega]; exact hzero) hz
      by_cases he : ks.getD (sl.getD ((hashN key + d) % sl.length) 0 - 1) default = key
      · have HE : Hid (SlotAt ks sl key ((hashN key + d) % sl.length)) := ⟨d, rfl, hpr, .inr he⟩
        have hkcell := hkc (sl.getD ((hashN key + d) % sl.length) 0 - 1) (by omega)
        rw [he] at hkcell
        clear hstep hs hzero he hkc
        generalize (hashN key + d) % sl.length = i at *
        generalize sl.getD i 0 = n at *
        have hn0 : ((n : Int) != 0) = true := by simpa using hz
        have hn1 : 1 ≤ n := by omega
        clear hz
        go_wp2
        rw [jump_ret]
        go_ret
        exact ⟨⟨_, rfl, HE.out⟩, _, rfl⟩
      · have HP := Lib.hid (hpr.succ hz he)
        have hkcell := hkc (sl.getD ((hashN key + d) % sl.length) 0 - 1) (by omega)
        have he' := bytes_ne he
        have HS := Lib.hid hstep
        clear hstep hs hzero he hkc
        generalize (hashN key + d) % sl.length = i at *
        generalize sl.getD i 0 = n at *
        generalize ks.getD (n - 1) default = other at *
        have hn0 : ((n : Int) != 0) = true := by simpa using hz
        have hn1 : 1 ≤ n := by omega
        have hq0 : 0 ≤ ((i : Int) + 1) % (sl.length : Int) := Int.emod_nonneg _ (by omega)
        have hq1 : ((i : Int) + 1) % (sl.length : Int) < sl.length := Int.emod_lt_of_pos _ (by omega)
        clear hz
        go_wp2
        go_step3
        have e0 : ((i : Int) + 1) % (sl.length : Int) = (((hashN key + (d + 1)) % sl.length : Nat) : Int) := by rw [← HS.out]; simp
        rw [e0]
        exact ⟨rfl, g - 1, by omega, d + 1, by omega, HP.out, ⟨nq, rfl⟩, _, _, _, _, _, _, _, _, _, _, _, _, _, _, _, _, _, _, _, _, _, _, _, _, _, _, _, _, _, _, _, _, _, _, _, _, _, _, _, _, _, _, _, rfl⟩
end Go.Proofs.Ytnodhjlpoaahbaa
