/- Plain facts on words: there and back, turns, how many bits. -/
import Init

namespace MixPure
/-- one round back -/
def g (s x : Nat) : Nat → Nat
  | 0 => x
  | n + 1 => x ^^^ g s x n >>> s
theorem g_fst (s x : Nat) : ∀ n, g s (x ^^^ x >>> s) n = x ^^^ x >>> (s * (n + 1))
  | 0 => by simp [g]
  | n + 1 => by
    rw [g, g_fst s x n, Nat.shiftRight_xor_distrib, ← Nat.shiftRight_add, show s * (n + 1) + s = s * (n + 1 + 1) from by rw [Nat.mul_add s (n+1) 1]; omega]
    rw [Nat.xor_assoc, ← Nat.xor_assoc (x >>> s), Nat.xor_self, Nat.zero_xor]
theorem g_snd (s x : Nat) : ∀ n, g s x n ^^^ (g s x n) >>> s = x ^^^ x >>> (s * (n + 1))
  | 0 => by simp [g]
  | n + 1 => by
    have ih := g_snd s x n
    rw [g, Nat.shiftRight_xor_distrib]
    have h2 : (g s x n) >>> s ^^^ ((g s x n) >>> s) >>> s = x >>> s ^^^ x >>> (s * (n + 1 + 1)) := by
      rw [← Nat.shiftRight_xor_distrib, ih, Nat.shiftRight_xor_distrib, ← Nat.shiftRight_add, show s * (n + 1) + s = s * (n + 1 + 1) from by rw [Nat.mul_add s (n+1) 1]; omega]
    generalize (g s x n) >>> s = a at *
    generalize a >>> s = b at *
    generalize x >>> s = c at *
    generalize x >>> (s * (n + 1 + 1)) = d at *
    -- x ^ a ^ (c ^ b), with a ^ b = c ^ d
    have e1 : x ^^^ a ^^^ (c ^^^ b) = x ^^^ ((a ^^^ b) ^^^ c) := by ac_rfl
    have e2 : (c ^^^ d) ^^^ c = d := by rw [Nat.xor_comm c d, Nat.xor_assoc, Nat.xor_self, Nat.xor_zero]
    rw [e1, h2, e2]
theorem big (s x n : Nat) (hx : x < 2 ^ 64) (h : 64 ≤ s * (n + 1)) : x >>> (s * (n + 1)) = 0 := by
  rw [Nat.shiftRight_eq_div_pow]
  exact Nat.div_eq_of_lt (Nat.lt_of_lt_of_le hx (Nat.pow_le_pow_right (by omega) h))
theorem g_back (s x n : Nat) (hx : x < 2 ^ 64) (h : 64 ≤ s * (n + 1)) : g s (x ^^^ x >>> s) n = x := by
  rw [g_fst, big s x n hx h, Nat.xor_zero]
theorem g_forth (s x n : Nat) (hx : x < 2 ^ 64) (h : 64 ≤ s * (n + 1)) : g s x n ^^^ (g s x n) >>> s = x := by
  rw [g_snd, big s x n hx h, Nat.xor_zero]
theorem g_lt (s x : Nat) (hx : x < 2 ^ 64) : ∀ n, g s x n < 2 ^ 64
  | 0 => hx
  | n + 1 => Nat.xor_lt_two_pow hx (Nat.lt_of_le_of_lt (Nat.shiftRight_le _ _) (g_lt s x hx n))
/-- a word times an odd one and its inverse -/
theorem inv_mul (x a b : Nat) (hx : x < 18446744073709551616) (h : a * b % 18446744073709551616 = 1) : x * a % 18446744073709551616 * b % 18446744073709551616 = x := by
  rw [Nat.mod_mul_mod, Nat.mul_assoc, ← Nat.mul_mod_mod, h, Nat.mul_one, Nat.mod_eq_of_lt hx]
theorem inv1 : (13787848793156543929 * 10871156337175269513) % 18446744073709551616 = 1 := by decide
theorem inv1' : (10871156337175269513 * 13787848793156543929) % 18446744073709551616 = 1 := by decide
theorem inv2 : (10723151780598845931 * 3573116690164977347) % 18446744073709551616 = 1 := by decide
theorem inv2' : (3573116690164977347 * 10723151780598845931) % 18446744073709551616 = 1 := by decide

/-! ### turns -/
/-- turned up by one bit -/
def r1 (h : Nat) : Nat := h * 2 % 18446744073709551616 + h / 9223372036854775808
def rt : Nat → Nat → Nat
  | 0, h => h
  | n + 1, h => r1 (rt n h)
theorem r1_lt {h : Nat} (hh : h < 18446744073709551616) : r1 h < 18446744073709551616 := by unfold r1; omega
theorem rt_lt {h : Nat} (hh : h < 18446744073709551616) : ∀ n, rt n h < 18446744073709551616
  | 0 => hh
  | n + 1 => r1_lt (rt_lt hh n)
theorem rt_add (h m : Nat) : ∀ n, rt (m + n) h = rt n (rt m h)
  | 0 => rfl
  | n + 1 => by rw [← Nat.add_assoc, rt, rt, rt_add h m n]
theorem rt_zero : ∀ n, rt n 0 = 0
  | 0 => rfl
  | n + 1 => by rw [rt, rt_zero n]; rfl
theorem rt_full : ∀ n, rt n 18446744073709551615 = 18446744073709551615
  | 0 => rfl
  | n + 1 => by rw [rt, rt_full n]; rfl
/-- one step of the direct form -/
theorem step_form (P Q q b r : Nat) (hPQ : P * Q = 9223372036854775808) (hq : q < P) (hb : b ≤ 1) (hr : r < Q) :
    r1 ((b * Q + r) * P + q) = r * (2 * P) + (2 * q + b) := by
  have h1 : r * P + P ≤ Q * P := by have := Nat.mul_le_mul_right P (Nat.succ_le_of_lt hr); rw [Nat.succ_mul] at this; exact this
  have h2 : Q * P = 9223372036854775808 := by rw [Nat.mul_comm]; exact hPQ
  have h3 : (b * Q + r) * P = b * 9223372036854775808 + r * P := by rw [Nat.add_mul, Nat.mul_assoc, h2]
  have h4 : r * (2 * P) = 2 * (r * P) := by rw [Nat.mul_left_comm]
  unfold r1
  rw [h3, h4]
  generalize r * P = y at *
  rcases Nat.le_one_iff_eq_zero_or_eq_one.1 hb with rfl | rfl <;> omega
theorem rt_form {h : Nat} (hh : h < 18446744073709551616) : ∀ n m, n + m = 64 → rt n h = (h % 2 ^ m) * 2 ^ n + h / 2 ^ m
  | 0, m, hm => by
    obtain rfl : m = 64 := by omega
    rw [rt, Nat.mod_eq_of_lt (by exact hh), Nat.div_eq_of_lt (by exact hh)]; omega
  | n + 1, m, hm => by
    have ih := rt_form hh n (m + 1) (by omega)
    rw [rt, ih]
    have hpq : 2 ^ n * 2 ^ m = 9223372036854775808 := by rw [← Nat.pow_add, show n + m = 63 by omega]
    have hp : 0 < 2 ^ m := Nat.pow_pos (by omega)
    have e2 : 2 ^ (m + 1) = 2 ^ m * 2 := Nat.pow_succ 2 m
    have hd : h / 2 ^ (m + 1) = h / 2 ^ m / 2 := by rw [e2, Nat.div_div_eq_div_mul]
    have hmod : h % 2 ^ (m + 1) = (h / 2 ^ m % 2) * 2 ^ m + h % 2 ^ m := by
      rw [e2, Nat.mod_mul]; rw [Nat.mul_comm]; omega
    have hq : h / 2 ^ m / 2 < 2 ^ n := by
      rw [Nat.div_div_eq_div_mul, Nat.div_lt_iff_lt_mul (by omega)]
      have : 2 ^ n * (2 ^ m * 2) = 18446744073709551616 := by rw [← Nat.mul_assoc, hpq]
      omega
    rw [hmod, hd, step_form (2 ^ n) (2 ^ m) (h / 2 ^ m / 2) (h / 2 ^ m % 2) (h % 2 ^ m) hpq hq (by omega) (Nat.mod_lt _ hp)]
    rw [Nat.pow_succ 2 n, Nat.mul_comm 2 (2 ^ n)]
    congr 1
    omega
theorem rt_all {h : Nat} (hh : h < 18446744073709551616) : rt 64 h = h := by rw [rt_form hh 64 0 rfl]; omega
theorem rt_mod {h : Nat} (hh : h < 18446744073709551616) (n : Nat) : rt (n % 64) h = rt n h := by
  have : ∀ k, rt (n % 64 + 64 * k) h = rt (n % 64) h := by
    intro k
    induction k with
    | zero => rfl
    | succ k ih => rw [Nat.mul_succ, ← Nat.add_assoc, rt_add, ih, rt_all (rt_lt hh _)]
  have h2 := this (n / 64)
  rw [Nat.mod_add_div] at h2
  exact h2.symm
/-- as Go's text has it -/
theorem rt_or {h n : Nat} (hh : h < 18446744073709551616) (hn : n ≤ 64) : (h * 2 ^ n % 18446744073709551616) ||| (h / 2 ^ (64 - n)) = rt n h := by
  obtain ⟨m, hm⟩ : ∃ m, n + m = 64 := ⟨64 - n, by omega⟩
  rw [rt_form hh n m hm, show 64 - n = m by omega]
  have hpq : 2 ^ n * 2 ^ m = 18446744073709551616 := by rw [← Nat.pow_add, hm]
  have e : h * 2 ^ n % 18446744073709551616 = (h % 2 ^ m) * 2 ^ n := by
    rw [← hpq, Nat.mul_comm h, Nat.mul_mod_mul_left, Nat.mul_comm]
  have hq : h / 2 ^ m < 2 ^ n := by rw [Nat.div_lt_iff_lt_mul (Nat.pow_pos (by omega)), hpq]; exact hh
  rw [e, Nat.mul_comm (h % 2 ^ m), ← Nat.two_pow_add_eq_or_of_lt hq]
/-! ### how many bits -/
def pc (h : Nat) : Nat → Nat
  | 0 => 0
  | k + 1 => pc h k + h / 2 ^ k % 2
theorem pc_double (x b : Nat) (hb : b ≤ 1) : ∀ k, pc (2 * x + b) (k + 1) = pc x k + b
  | 0 => by simp [pc]; omega
  | k + 1 => by
    rw [pc, pc_double x b hb k, pc]
    have : (2 * x + b) / 2 ^ (k + 1) = x / 2 ^ k := by
      have h1 : (2 * x + b) / 2 = x := by omega
      rw [Nat.pow_succ, Nat.mul_comm (2 ^ k) 2, ← Nat.div_div_eq_div_mul, h1]
    rw [this]; omega
theorem pc_mod (x m : Nat) : ∀ k, k ≤ m → pc (x % 2 ^ m) k = pc x k
  | 0, _ => rfl
  | k + 1, h => by
    rw [pc, pc, pc_mod x m k (by omega)]
    congr 1
    obtain ⟨j, rfl⟩ : ∃ j, m = k + (j + 1) := ⟨m - k - 1, by omega⟩
    rw [Nat.pow_add, Nat.mod_mul_right_div_self, Nat.pow_succ, Nat.mod_mod_of_dvd _ (Nat.dvd_mul_left 2 (2 ^ j))]
theorem pc_r1 {h : Nat} (hh : h < 18446744073709551616) : pc (r1 h) 64 = pc h 64 := by
  have e : r1 h = 2 * (h % 2 ^ 63) + h / 2 ^ 63 := by unfold r1; omega
  have hb : h / 2 ^ 63 ≤ 1 := by omega
  have e2 : pc h 64 = pc h 63 + h / 2 ^ 63 % 2 := rfl
  rw [e, pc_double _ _ hb 63, pc_mod _ _ _ (Nat.le_refl _), e2]
  omega
theorem pc_rt {h : Nat} (hh : h < 18446744073709551616) : ∀ n, pc (rt n h) 64 = pc h 64
  | 0 => rfl
  | n + 1 => by rw [rt, pc_r1 (rt_lt hh n), pc_rt hh n]
end MixPure
