/- Plain facts on powers of two. -/
import Init
namespace PowPure
theorem and_pred : ∀ n : Nat, 0 < n → ((n &&& (n - 1)) = 0 ↔ ∃ k, n = 2 ^ k) := by
  intro n
  induction n using Nat.strongRecOn with
  | _ n ih =>
    intro hn
    have hdm : ∀ x y : Nat, (x &&& y) = 2 * ((x / 2) &&& (y / 2)) + ((x % 2) &&& (y % 2)) := by
      intro x y
      have h1 : (x &&& y) / 2 = (x / 2) &&& (y / 2) := by simpa using Nat.and_div_two_pow (a := x) (b := y) (n := 1)
      have h2 : (x &&& y) % 2 = (x % 2) &&& (y % 2) := by simpa using Nat.and_mod_two_pow (a := x) (b := y) (n := 1)
      omega
    rcases Nat.mod_two_eq_zero_or_one n with h | h
    · -- even
      obtain ⟨m, rfl⟩ : ∃ m, n = 2 * m := ⟨n / 2, by omega⟩
      have hm : 0 < m := by omega
      rw [hdm, show 2 * m / 2 = m by omega, show (2 * m - 1) / 2 = m - 1 by omega, show 2 * m % 2 = 0 by omega, Nat.zero_and]
      constructor
      · intro h0
        obtain ⟨k, hk⟩ := (ih m (by omega) hm).1 (by omega)
        exact ⟨k + 1, by rw [Nat.pow_succ, hk]; omega⟩
      · rintro ⟨k, hk⟩
        cases k with
        | zero => omega
        | succ k =>
          have : m = 2 ^ k := by rw [Nat.pow_succ] at hk; omega
          have := (ih m (by omega) hm).2 ⟨k, this⟩
          omega
    · obtain ⟨m, rfl⟩ : ∃ m, n = 2 * m + 1 := ⟨n / 2, by omega⟩
      rw [hdm, show (2 * m + 1) / 2 = m by omega, show (2 * m + 1 - 1) / 2 = m by omega, show (2 * m + 1 - 1) % 2 = 0 by omega, Nat.and_zero, Nat.and_self]
      constructor
      · intro h0
        exact ⟨0, by omega⟩
      · rintro ⟨k, hk⟩
        cases k with
        | zero => omega
        | succ k => rw [Nat.pow_succ] at hk; omega
end PowPure
