/-
  A loop that counts: what holds at each round.
-/
import Derived.Test.YtdjjlkekbphbaaaDoorVjA
import Derived.Test.YtdjjlkekbphbaaaDoorVjB
import Derived.IntWalk
namespace Go.Proofs.YtdjjlkekbphbaaaDoor
open Go.RowKit

theorem wrap_id {n : Int} (h1 : -9223372036854775808 ≤ n) (h2 : n ≤ 9223372036854775807) : IntKind.i64.wrap n = n := IntWalk.i64_in n ⟨h1, h2⟩
theorem wrap_succ {k : Nat} (h : k ≤ 4611686018427387904) : IntKind.i64.wrap ((k : Int) + 1) = ((k + 1 : Nat) : Int) := by rw [wrap_id (by omega) (by omega)]; omega
theorem getD_mem {α : Type} {l : List α} {i : Nat} {d : α} (h : i < l.length) : l.getD i d ∈ l := by simp [List.getD, h]
/-- A loop that counts to n; I: what holds at the head. -/
theorem loop_idx {c : Ctx} (hT : TOk c.P c.T) (hmx : c.P.follows .mixedOrders = true) {rel : List Nat} (n : Nat) (S : Nat → St) (I : Nat → Prop) (hl : c.sub rel = .loop (subC (rel ++ [0]) c.code)) (hB : regsB c.N (subC (rel ++ [0]) c.code) = true) (h0 : I 0)
    (round : ∀ k, k ≤ n → I k → ∀ J : St → Prop, (∀ st', k < n → I (k + 1) → Up (fun s => s = S (k + 1)) st' → J st') → Asks ((c.loop rel J).goal (S k))) : SatC c rel (S 0) := by
  refine loop_raw hT hmx (fun g st => ∃ k, k ≤ n ∧ g = n - k ∧ I k ∧ st = S k) hl hB ⟨n, Up.of ⟨0, Nat.zero_le _, rfl, h0, rfl⟩⟩ ?_
  rintro g st ⟨k, hk, rfl, hI, rfl⟩
  refine round k hk hI _ fun st' hlt hI' hup => ⟨n - (k + 1), by omega, ?_⟩
  obtain ⟨s', hc, hs⟩ := hup
  exact ⟨s', hc, k + 1, hlt, rfl, hI', hs⟩
end Go.Proofs.YtdjjlkekbphbaaaDoor
