/- The least number with a property: a loop's measure where no slot counts. -/
import Derived.WalkKit
namespace Go.Proofs.Ytlgnghehgcoccaa
theorem exists_least {p : Nat → Prop} (h : ∃ n, p n) : ∃ n, p n ∧ ∀ m, p m → n ≤ m := by
  obtain ⟨n, hn⟩ := h
  induction n using Nat.strongRecOn with
  | ind n ih =>
    by_cases hm : ∃ m, m < n ∧ p m
    · obtain ⟨m, h1, h2⟩ := hm
      exact ih m h1 h2
    · exact ⟨n, hn, fun m h => by
        rcases Nat.lt_or_ge m n with h1 | h1
        · exact absurd ⟨m, h1, h⟩ hm
        · exact h1⟩
open Classical in
noncomputable def leastN (p : Nat → Prop) : Nat := if h : ∃ n, p n then (exists_least h).choose else 0
theorem leastN_at {p : Nat → Prop} (h : ∃ n, p n) : p (leastN p) := by
  unfold leastN
  rw [dif_pos h]
  exact (exists_least h).choose_spec.1
theorem leastN_le {p : Nat → Prop} {n : Nat} (h : p n) : leastN p ≤ n := by
  unfold leastN
  rw [dif_pos ⟨n, h⟩]
  exact (exists_least ⟨n, h⟩).choose_spec.2 n h
end Go.Proofs.Ytlgnghehgcoccaa
