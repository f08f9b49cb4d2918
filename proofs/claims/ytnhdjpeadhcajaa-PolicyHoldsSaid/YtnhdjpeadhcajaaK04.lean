/- Merged texts: Plain facts on words: there and back, turns, how many bits. Contracts of layer 1's functions: words, turns, places. -/
import Init
import Derived.Test.YtnhdjpeadhcajaaK01
namespace MixPure
/-- one round back -/
def g (s x : Nat) : Nat → Nat
  | 0 => x
  | n + 1 => x ^^^ g s x n >>> s
theorem g_fst (s x : Nat) : ∀ n, g s (x ^^^ x >>> s) n = x ^^^ x >>> (s * (n + 1))
  | 0 => by simp [g]
  | n + 1 => by
    rw [g, g_fst s x n, Nat.shiftRight_xor_distrib, ← Nat.shiftRight_add, show s * (n + 1) + s = s * (n + 1 + 1) from by rw [Nat.mul_add s (n+1) 1]; omega]
    rw [Nat.xor_assoc, ← Nat.xor_assoc (x >>> s), Nat.xor_self, Nat.zero_xor]
theorem g_snd (s x : Nat) : ∀ n, g s x n ^^^ (g s x n) >>> s = x ^^^ x >>> (s * (n + 1))
  | 0 => by simp [g]
  | n + 1 => by
    have ih := g_snd s x n
    rw [g, Nat.shiftRight_xor_distrib]
    have h2 : (g s x n) >>> s ^^^ ((g s x n) >>> s) >>> s = x >>> s ^^^ x >>> (s * (n + 1 + 1)) := by
      rw [← Nat.shiftRight_xor_distrib, ih, Nat.shiftRight_xor_distrib, ← Nat.shiftRight_add, show s * (n + 1) + s = s * (n + 1 + 1) from by rw [Nat.mul_add s (n+1) 1]; omega]
    generalize (g s x n) >>> s = a at *
    generalize a >>> s = b at *
    generalize x >>> s = c at *
    generalize x >>> (s * (n + 1 + 1)) = d at *
    -- x ^ a ^ (c ^ b), with a ^ b = c ^ d
    have e1 : x ^^^ a ^^^ (c ^^^ b) = x ^^^ ((a ^^^ b) ^^^ c) := by ac_rfl
    have e2 : (c ^^^ d) ^^^ c = d := by rw [Nat.xor_comm c d, Nat.xor_assoc, Nat.xor_self, Nat.xor_zero]
    rw [e1, h2, e2]
theorem big (s x n : Nat) (hx : x < 2 ^ 64) (h : 64 ≤ s * (n + 1)) : x >>> (s * (n + 1)) = 0 := by
  rw [Nat.shiftRight_eq_div_pow]
  exact Nat.div_eq_of_lt (Nat.lt_of_lt_of_le hx (Nat.pow_le_pow_right (by omega) h))
theorem g_back (s x n : Nat) (hx : x < 2 ^ 64) (h : 64 ≤ s * (n + 1)) : g s (x ^^^ x >>> s) n = x := by
  rw [g_fst, big s x n hx h, Nat.xor_zero]
theorem g_forth (s x n : Nat) (hx : x < 2 ^ 64) (h : 64 ≤ s * (n + 1)) : g s x n ^^^ (g s x n) >>> s = x := by
  rw [g_snd, big s x n hx h, Nat.xor_zero]
theorem g_lt (s x : Nat) (hx : x < 2 ^ 64) : ∀ n, g s x n < 2 ^ 64
  | 0 => hx
  | n + 1 => Nat.xor_lt_two_pow hx (Nat.lt_of_le_of_lt (Nat.shiftRight_le _ _) (g_lt s x hx n))
/-- a word times an odd one and its inverse -/
theorem inv_mul (x a b : Nat) (hx : x < 18446744073709551616) (h : a * b % 18446744073709551616 = 1) : x * a % 18446744073709551616 * b % 18446744073709551616 = x := by
  rw [Nat.mod_mul_mod, Nat.mul_assoc, ← Nat.mul_mod_mod, h, Nat.mul_one, Nat.mod_eq_of_lt hx]
theorem inv1 : (13787848793156543929 * 10871156337175269513) % 18446744073709551616 = 1 := by decide
theorem inv1' : (10871156337175269513 * 13787848793156543929) % 18446744073709551616 = 1 := by decide
theorem inv2 : (10723151780598845931 * 3573116690164977347) % 18446744073709551616 = 1 := by decide
theorem inv2' : (3573116690164977347 * 10723151780598845931) % 18446744073709551616 = 1 := by decide

/-! ### turns -/
/-- turned up by one bit -/
def r1 (h : Nat) : Nat := h * 2 % 18446744073709551616 + h / 9223372036854775808
def rt : Nat → Nat → Nat
  | 0, h => h
  | n + 1, h => r1 (rt n h)
theorem r1_lt {h : Nat} (hh : h < 18446744073709551616) : r1 h < 18446744073709551616 := by unfold r1; omega
theorem rt_lt {h : Nat} (hh : h < 18446744073709551616) : ∀ n, rt n h < 18446744073709551616
  | 0 => hh
  | n + 1 => r1_lt (rt_lt hh n)
theorem rt_add (h m : Nat) : ∀ n, rt (m + n) h = rt n (rt m h)
  | 0 => rfl
  | n + 1 => by rw [← Nat.add_assoc, rt, rt, rt_add h m n]
theorem rt_zero : ∀ n, rt n 0 = 0
  | 0 => rfl
  | n + 1 => by rw [rt, rt_zero n]; rfl
theorem rt_full : ∀ n, rt n 18446744073709551615 = 18446744073709551615
  | 0 => rfl
  | n + 1 => by rw [rt, rt_full n]; rfl
/-- one step of the direct form -/
theorem step_form (P Q q b r : Nat) (hPQ : P * Q = 9223372036854775808) (hq : q < P) (hb : b ≤ 1) (hr : r < Q) :
    r1 ((b * Q + r) * P + q) = r * (2 * P) + (2 * q + b) := by
  have h1 : r * P + P ≤ Q * P := by have := Nat.mul_le_mul_right P (Nat.succ_le_of_lt hr); rw [Nat.succ_mul] at this; exact this
  have h2 : Q * P = 9223372036854775808 := by rw [Nat.mul_comm]; exact hPQ
  have h3 : (b * Q + r) * P = b * 9223372036854775808 + r * P := by rw [Nat.add_mul, Nat.mul_assoc, h2]
  have h4 : r * (2 * P) = 2 * (r * P) := by rw [Nat.mul_left_comm]
  unfold r1
  rw [h3, h4]
  generalize r * P = y at *
  rcases Nat.le_one_iff_eq_zero_or_eq_one.1 hb with rfl | rfl <;> omega
theorem rt_form {h : Nat} (hh : h < 18446744073709551616) : ∀ n m, n + m = 64 → rt n h = (h % 2 ^ m) * 2 ^ n + h / 2 ^ m
  | 0, m, hm => by
    obtain rfl : m = 64 := by omega
    rw [rt, Nat.mod_eq_of_lt (by exact hh), Nat.div_eq_of_lt (by exact hh)]; omega
  | n + 1, m, hm => by
    have ih := rt_form hh n (m + 1) (by omega)
    rw [rt, ih]
    have hpq : 2 ^ n * 2 ^ m = 9223372036854775808 := by rw [← Nat.pow_add, show n + m = 63 by omega]
    have hp : 0 < 2 ^ m := Nat.pow_pos (by omega)
    have e2 : 2 ^ (m + 1) = 2 ^ m * 2 := Nat.pow_succ 2 m
    have hd : h / 2 ^ (m + 1) = h / 2 ^ m / 2 := by rw [e2, Nat.div_div_eq_div_mul]
    have hmod : h % 2 ^ (m + 1) = (h / 2 ^ m % 2) * 2 ^ m + h % 2 ^ m := by
      rw [e2, Nat.mod_mul]; rw [Nat.mul_comm]; omega
    have hq : h / 2 ^ m / 2 < 2 ^ n := by
      rw [Nat.div_div_eq_div_mul, Nat.div_lt_iff_lt_mul (by omega)]
      have : 2 ^ n * (2 ^ m * 2) = 18446744073709551616 := by rw [← Nat.mul_assoc, hpq]
      omega
    rw [hmod, hd, step_form (2 ^ n) (2 ^ m) (h / 2 ^ m / 2) (h / 2 ^ m % 2) (h % 2 ^ m) hpq hq (by omega) (Nat.mod_lt _ hp)]
    rw [Nat.pow_succ 2 n, Nat.mul_comm 2 (2 ^ n)]
    congr 1
    omega
theorem rt_all {h : Nat} (hh : h < 18446744073709551616) : rt 64 h = h := by rw [rt_form hh 64 0 rfl]; omega
theorem rt_mod {h : Nat} (hh : h < 18446744073709551616) (n : Nat) : rt (n % 64) h = rt n h := by
  have : ∀ k, rt (n % 64 + 64 * k) h = rt (n % 64) h := by
    intro k
    induction k with
    | zero => rfl
    | succ k ih => rw [Nat.mul_succ, ← Nat.add_assoc, rt_add, ih, rt_all (rt_lt hh _)]
  have h2 := this (n / 64)
  rw [Nat.mod_add_div] at h2
  exact h2.symm
/-- as Go's text has it -/
theorem rt_or {h n : Nat} (hh : h < 18446744073709551616) (hn : n ≤ 64) : (h * 2 ^ n % 18446744073709551616) ||| (h / 2 ^ (64 - n)) = rt n h := by
  obtain ⟨m, hm⟩ : ∃ m, n + m = 64 := ⟨64 - n, by omega⟩
  rw [rt_form hh n m hm, show 64 - n = m by omega]
  have hpq : 2 ^ n * 2 ^ m = 18446744073709551616 := by rw [← Nat.pow_add, hm]
  have e : h * 2 ^ n % 18446744073709551616 = (h % 2 ^ m) * 2 ^ n := by
    rw [← hpq, Nat.mul_comm h, Nat.mul_mod_mul_left, Nat.mul_comm]
  have hq : h / 2 ^ m < 2 ^ n := by rw [Nat.div_lt_iff_lt_mul (Nat.pow_pos (by omega)), hpq]; exact hh
  rw [e, Nat.mul_comm (h % 2 ^ m), ← Nat.two_pow_add_eq_or_of_lt hq]
/-! ### how many bits -/
def pc (h : Nat) : Nat → Nat
  | 0 => 0
  | k + 1 => pc h k + h / 2 ^ k % 2
theorem pc_double (x b : Nat) (hb : b ≤ 1) : ∀ k, pc (2 * x + b) (k + 1) = pc x k + b
  | 0 => by simp [pc]; omega
  | k + 1 => by
    rw [pc, pc_double x b hb k, pc]
    have : (2 * x + b) / 2 ^ (k + 1) = x / 2 ^ k := by
      have h1 : (2 * x + b) / 2 = x := by omega
      rw [Nat.pow_succ, Nat.mul_comm (2 ^ k) 2, ← Nat.div_div_eq_div_mul, h1]
    rw [this]; omega
theorem pc_mod (x m : Nat) : ∀ k, k ≤ m → pc (x % 2 ^ m) k = pc x k
  | 0, _ => rfl
  | k + 1, h => by
    rw [pc, pc, pc_mod x m k (by omega)]
    congr 1
    obtain ⟨j, rfl⟩ : ∃ j, m = k + (j + 1) := ⟨m - k - 1, by omega⟩
    rw [Nat.pow_add, Nat.mod_mul_right_div_self, Nat.pow_succ, Nat.mod_mod_of_dvd _ (Nat.dvd_mul_left 2 (2 ^ j))]
theorem pc_r1 {h : Nat} (hh : h < 18446744073709551616) : pc (r1 h) 64 = pc h 64 := by
  have e : r1 h = 2 * (h % 2 ^ 63) + h / 2 ^ 63 := by unfold r1; omega
  have hb : h / 2 ^ 63 ≤ 1 := by omega
  have e2 : pc h 64 = pc h 63 + h / 2 ^ 63 % 2 := rfl
  rw [e, pc_double _ _ hb 63, pc_mod _ _ _ (Nat.le_refl _), e2]
  omega
theorem pc_rt {h : Nat} (hh : h < 18446744073709551616) : ∀ n, pc (rt n h) 64 = pc h 64
  | 0 => rfl
  | n + 1 => by rw [rt, pc_r1 (rt_lt hh n), pc_rt hh n]
end MixPure
namespace Go.Proofs.Ytnhdjpeadhcajaa
open Go.RowKit MixPure
/-- as the code has it -/
def mixI (k s : Int) : Int :=
  let x0 := bits .xor .u64 k (IntKind.u64.wrap (s * 11400714819323198485))
  let x1 := IntKind.u64.wrap (bits .xor .u64 x0 (x0 / 1073741824) * 13787848793156543929)
  let x2 := IntKind.u64.wrap (bits .xor .u64 x1 (x1 / 134217728) * 10723151780598845931)
  bits .xor .u64 x2 (x2 / 2147483648)
/-- a word, and it moved down -/
def sh (d x : Nat) : Nat := x ^^^ x >>> d
theorem sh_lt {d x : Nat} (hx : x < 18446744073709551616) : sh d x < 18446744073709551616 :=
  Nat.xor_lt_two_pow (n := 64) hx (Nat.lt_of_le_of_lt (Nat.shiftRight_le _ _) hx)
/-- the word of a key, step by step -/
def mix0 (k s : Nat) : Nat := k ^^^ s * 11400714819323198485 % 18446744073709551616
def mix1 (x : Nat) : Nat := sh 30 x * 13787848793156543929 % 18446744073709551616
def mix2 (x : Nat) : Nat := sh 27 x * 10723151780598845931 % 18446744073709551616
def mixN (k s : Nat) : Nat := sh 31 (mix2 (mix1 (mix0 k s)))
theorem mix0_lt {k : Nat} (hk : k < 18446744073709551616) (s : Nat) : mix0 k s < 18446744073709551616 := Nat.xor_lt_two_pow (n := 64) hk (Nat.mod_lt _ (by omega))
theorem mix1_lt (x : Nat) : mix1 x < 18446744073709551616 := Nat.mod_lt _ (by omega)
theorem mix2_lt (x : Nat) : mix2 x < 18446744073709551616 := Nat.mod_lt _ (by omega)
theorem mixN_lt (k s : Nat) : mixN k s < 18446744073709551616 := sh_lt (mix2_lt _)
theorem sh_int {x : Nat} (hx : x < 18446744073709551616) (d : Nat) : bits .xor .u64 (x : Int) ((x : Int) / ((2 ^ d : Nat) : Int)) = (sh d x : Int) := by
  rw [← Int.natCast_ediv, ← Nat.shiftRight_eq_div_pow, xor_nat hx (Nat.lt_of_le_of_lt (Nat.shiftRight_le _ _) hx)]
  rfl
theorem mix0_int {k : Nat} (hk : k < 18446744073709551616) (s : Nat) : bits .xor .u64 (k : Int) (IntKind.u64.wrap ((s : Int) * 11400714819323198485)) = (mix0 k s : Int) := by
  have h := mul_nat s 11400714819323198485
  have e : (((11400714819323198485 : Nat) : Int)) = 11400714819323198485 := rfl
  rw [e] at h
  rw [h, xor_nat hk (Nat.mod_lt _ (by omega))]
  rfl
theorem mix1_int {x : Nat} (hx : x < 18446744073709551616) : IntKind.u64.wrap (bits .xor .u64 (x : Int) ((x : Int) / 1073741824) * 13787848793156543929) = (mix1 x : Int) := by
  have h := mul_nat (sh 30 x) 13787848793156543929
  have h2 := sh_int hx 30
  have e : (((13787848793156543929 : Nat) : Int)) = 13787848793156543929 := rfl
  have e2 : ((2 ^ 30 : Nat) : Int) = 1073741824 := rfl
  rw [e] at h
  rw [e2] at h2
  rw [h2, h]
  rfl
theorem mix2_int {x : Nat} (hx : x < 18446744073709551616) : IntKind.u64.wrap (bits .xor .u64 (x : Int) ((x : Int) / 134217728) * 10723151780598845931) = (mix2 x : Int) := by
  have h := mul_nat (sh 27 x) 10723151780598845931
  have h2 := sh_int hx 27
  have e : (((10723151780598845931 : Nat) : Int)) = 10723151780598845931 := rfl
  have e2 : ((2 ^ 27 : Nat) : Int) = 134217728 := rfl
  rw [e] at h
  rw [e2] at h2
  rw [h2, h]
  rfl
theorem mix3_int {x : Nat} (hx : x < 18446744073709551616) : bits .xor .u64 (x : Int) ((x : Int) / 2147483648) = (sh 31 x : Int) := by
  have h2 := sh_int hx 31
  have e2 : ((2 ^ 31 : Nat) : Int) = 2147483648 := rfl
  rw [e2] at h2
  exact h2
theorem mixI_nat {k s : Nat} (hk : k < 18446744073709551616) : mixI (k : Int) (s : Int) = (mixN k s : Int) := by
  unfold mixI mixN
  simp only [mix0_int hk s, mix1_int (mix0_lt hk s), mix2_int (mix1_lt _), mix3_int (mix2_lt _)]
set_option maxHeartbeats 400000 in
theorem mix_calls (seed key : Int) (w : World) : Calls Try.prog 80 #[.int .i64 seed, .int .i64 key] w fun e w' => e = .returned (.int .u64 (mixN (wd key) (wd seed))) ∧ w = w' := by
  have hm : mixI (IntKind.u64.wrap key) (IntKind.u64.wrap seed) = (mixN (wd key) (wd seed) : Int) := by rw [wrap_wd, wrap_wd, mixI_nat (wd_lt key)]
  go_enter Try.func80, Try.ntmps80
  go_wp2
  go_ret
  exact ⟨by rw [← hm]; rfl, rfl⟩
/-! ### turns -/
theorem mask63 (k : Int) : bits .and .u64 (IntKind.u64.wrap k) 63 = (((k % 64).toNat : Nat) : Int) := by
  rw [wrap_wd, show (63 : Int) = ((63 : Nat) : Int) from rfl, and_nat (wd_lt k) (by omega), Nat.and_two_pow_sub_one_eq_mod _ 6]
  unfold wd
  omega
set_option maxHeartbeats 400000 in
theorem rot_calls (x : Nat) (hx : x < 18446744073709551616) (k : Int) (w : World) : Calls Try.prog 87 #[.int .u64 x, .int .i64 k] w fun e w' => e = .returned (.int .u64 (rt (k % 64).toNat x)) ∧ w = w' := by
  have hs := mask63 k
  have hs2 : (k % 64).toNat < 64 := by omega
  have ho := rt_or hx (n := (k % 64).toNat) (by omega)
  generalize (k % 64).toNat = s at *
  have hr : bits .or .u64 (IntKind.u64.wrap ((x : Int) * 2 ^ s)) ((x : Int) / 2 ^ (64 - s)) = (rt s x : Int) := by
    rw [show ((x : Int) * 2 ^ s) = ((x * 2 ^ s : Nat) : Int) by simp, wrap_nat, show (x : Int) / 2 ^ (64 - s) = ((x / 2 ^ (64 - s) : Nat) : Int) by simp, or_nat (Nat.mod_lt _ (by omega)) (Nat.lt_of_le_of_lt (Nat.div_le_self _ _) hx), ho]
  clear ho
  have HR := Lib.hid hr
  clear hr
  go_enter Try.func87, Try.ntmps87
  go_wp2
  go_ret
  exact ⟨by rw [← HR.out]; rfl, rfl⟩
set_option maxHeartbeats 400000 in
theorem turn_calls (x : Nat) (hx : x < 18446744073709551616) (k : Int) (w : World) : Calls Try.prog 86 #[.int .u64 x, .int .i64 k] w fun e w' => e = .returned (.int .u64 (rt (k % 64).toNat x)) ∧ w = w' := by
  have hr := fun w => rot_calls x hx (k.tmod 64) w
  have e1 : k.tmod 64 % 64 = k % 64 := by
    rw [Int.tmod_def]
    omega
  rw [e1] at hr
  go_enter Try.func86, Try.ntmps86
  go_wp2_with (go_at_call 87; refine (hr _).mono ?_; rintro e w' ⟨rfl, rfl⟩)
  go_ret
  exact ⟨rfl, rfl⟩
/-- a place -/
def idx (h : Nat) (row size : Int) : Nat := if size < 1 then 0 else rt ((16 * row) % 64).toNat h % size.toNat
theorem turn_wrap (row : Int) : ((wrap64 (16 * row)) % 64).toNat = ((16 * row) % 64).toNat := by
  rw [wrap64]; omega
theorem wrap_mod (t : Nat) {size : Int} (h1 : 1 ≤ size) (h2 : size ≤ 9223372036854775807) : wrap64 ((t : Int) % size) = ((t % size.toNat : Nat) : Int) := by
  obtain ⟨s, rfl⟩ : ∃ s : Nat, size = s := ⟨size.toNat, by omega⟩
  rw [Int.toNat_natCast, ← Int.natCast_emod]
  have h3 : t % s < s := Nat.mod_lt _ (by omega)
  rw [wrap64]
  omega
set_option maxHeartbeats 400000 in
theorem index_calls (h : Nat) (hh : h < 18446744073709551616) (row size : Int) (hs2 : size ≤ 9223372036854775807) (w : World) :
    Calls Try.prog 81 #[.int .u64 h, .int .i64 row, .int .i64 size] w fun e w' => e = .returned (.int .i64 (idx h row size)) ∧ w = w' := by
  unfold idx
  by_cases hs : size < 1
  · rw [if_pos hs]
    go_enter Try.func81, Try.ntmps81
    go_wp2
    go_ret
    exact ⟨rfl, rfl⟩
  · rw [if_neg hs]
    have ht := fun w => turn_calls h hh (wrap64 (16 * row)) w
    rw [turn_wrap] at ht
    generalize rt ((16 * row) % 64).toNat h = t at *
    have hw := wrap_mod t (show 1 ≤ size by omega) hs2
    have HW := Lib.hid hw
    clear hw
    go_enter Try.func81, Try.ntmps81
    go_wp2_with fail
    go_at_call 86
    refine (ht _).mono ?_
    rintro e w1 ⟨rfl, rfl⟩
    go_wp2_with fail
    go_ret
    exact ⟨by rw [← HW.out]; rfl, rfl⟩
theorem idx_lt (h : Nat) (row : Int) (n : Nat) (hn : 1 ≤ n) : idx h row n < n := by
  unfold idx
  rw [if_neg (by omega), Int.toNat_natCast]
  exact Nat.mod_lt _ (by omega)
end Go.Proofs.Ytnhdjpeadhcajaa
