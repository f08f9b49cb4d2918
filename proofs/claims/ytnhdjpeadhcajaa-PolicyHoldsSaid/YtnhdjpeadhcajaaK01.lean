/- Merged texts: Words: bits of numbers. Plain facts on counters: the digits of a word to the base sixteen. -/
import Derived.Test.YtnhdjpeadhcajaaProg
import Derived.WalkKit
import Derived.Lib.Hide
import Derived.Laws.BitsAllLaws
import Derived.Deep.LoopGhost
import Init
namespace Go.Proofs.Ytnhdjpeadhcajaa
open Go.RowKit
/-- a number as a word -/
def wd (x : Int) : Nat := (x % 18446744073709551616).toNat
theorem wd_lt (x : Int) : wd x < 18446744073709551616 := by unfold wd; omega
theorem wrap_wd (x : Int) : IntKind.u64.wrap x = (wd x : Int) := by
  rw [IntKind.wrap_u64]; unfold wd; omega
theorem wd_nat (n : Nat) : wd (n : Int) = n % 18446744073709551616 := by unfold wd; omega
theorem wrap_nat (n : Nat) : IntKind.u64.wrap (n : Int) = ((n % 18446744073709551616 : Nat) : Int) := by rw [wrap_wd, wd_nat]
theorem xor_nat {a b : Nat} (ha : a < 18446744073709551616) (hb : b < 18446744073709551616) : bits .xor .u64 (a : Int) (b : Int) = ((a ^^^ b : Nat) : Int) := by
  have e : bits .xor .u64 (a : Int) (b : Int) = IntKind.u64.wrap ((BitVec.ofInt 64 (a : Int) ^^^ BitVec.ofInt 64 (b : Int)).toNat : Int) := rfl
  rw [e, BitVec.toNat_xor, BitVec.ofInt_natCast, BitVec.ofInt_natCast, BitVec.toNat_ofNat, BitVec.toNat_ofNat, Nat.mod_eq_of_lt (a := a) ha, Nat.mod_eq_of_lt (a := b) hb, wrap_nat, Nat.mod_eq_of_lt (Nat.xor_lt_two_pow (n := 64) ha hb)]
theorem or_nat {a b : Nat} (ha : a < 18446744073709551616) (hb : b < 18446744073709551616) : bits .or .u64 (a : Int) (b : Int) = ((a ||| b : Nat) : Int) := by
  have e : bits .or .u64 (a : Int) (b : Int) = IntKind.u64.wrap ((BitVec.ofInt 64 (a : Int) ||| BitVec.ofInt 64 (b : Int)).toNat : Int) := rfl
  rw [e, BitVec.toNat_or, BitVec.ofInt_natCast, BitVec.ofInt_natCast, BitVec.toNat_ofNat, BitVec.toNat_ofNat, Nat.mod_eq_of_lt (a := a) ha, Nat.mod_eq_of_lt (a := b) hb, wrap_nat, Nat.mod_eq_of_lt (Nat.or_lt_two_pow (n := 64) ha hb)]
theorem and_nat {a b : Nat} (ha : a < 18446744073709551616) (hb : b < 18446744073709551616) : bits .and .u64 (a : Int) (b : Int) = ((a &&& b : Nat) : Int) := by
  have e : bits .and .u64 (a : Int) (b : Int) = IntKind.u64.wrap ((BitVec.ofInt 64 (a : Int) &&& BitVec.ofInt 64 (b : Int)).toNat : Int) := rfl
  rw [e, BitVec.toNat_and, BitVec.ofInt_natCast, BitVec.ofInt_natCast, BitVec.toNat_ofNat, BitVec.toNat_ofNat, Nat.mod_eq_of_lt (a := a) ha, Nat.mod_eq_of_lt (a := b) hb, wrap_nat, Nat.mod_eq_of_lt (Nat.and_lt_two_pow (n := 64) _ hb)]
theorem mul_nat (a b : Nat) : IntKind.u64.wrap ((a : Int) * (b : Int)) = ((a * b % 18446744073709551616 : Nat) : Int) := by rw [← Int.natCast_mul, wrap_nat]
/-- a call that tells and changes nothing -/
def Tells (f : Nat) (args : Array Value) (v : Value) : Prop := ∀ w, Calls Try.prog f args w fun e w' => e = .returned v ∧ w = w'
end Go.Proofs.Ytnhdjpeadhcajaa
namespace NibPure
/-- the counter k of a word -/
def dg (w k : Nat) : Nat := w / 16 ^ k % 16
theorem dg_lt (w k : Nat) : dg w k < 16 := Nat.mod_lt _ (by omega)
/-- words are told by their counters -/
theorem dg_ext : ∀ (m : Nat) {w v : Nat}, w < 16 ^ m → v < 16 ^ m → (∀ k, k < m → dg w k = dg v k) → w = v
  | 0, w, v, hw, hv, _ => by simp at hw hv; omega
  | m + 1, w, v, hw, hv, h => by
    have h0 := h 0 (by omega)
    unfold dg at h0
    rw [Nat.pow_zero, Nat.div_one, Nat.div_one] at h0
    have h1 : w / 16 = v / 16 := dg_ext m (by rw [Nat.pow_succ] at hw; omega) (by rw [Nat.pow_succ] at hv; omega) (fun k hk => by
      have h2 := h (k + 1) (by omega)
      unfold dg at h2 ⊢
      rw [Nat.div_div_eq_div_mul, Nat.div_div_eq_div_mul, show 16 * 16 ^ k = 16 ^ (k + 1) by rw [Nat.pow_succ]; omega]
      exact h2)
    omega
/-- a word with another counter -/
def st (w i n : Nat) : Nat := w / 16 ^ (i + 1) * 16 ^ (i + 1) + (n * 16 ^ i + w % 16 ^ i)
theorem pos16 (k : Nat) : 0 < 16 ^ k := Nat.pow_pos (by omega)
theorem dg_st_self (w i : Nat) {n : Nat} (hn : n < 16) : dg (st w i n) i = n := by
  unfold dg st
  have hl := Nat.mod_lt w (pos16 i)
  have e : w / (16 ^ i * 16) * (16 ^ i * 16) + (n * 16 ^ i + w % 16 ^ i) = w % 16 ^ i + 16 ^ i * (w / (16 ^ i * 16) * 16 + n) := by
    generalize w / (16 ^ i * 16) = q
    have e1 : q * (16 ^ i * 16) = 16 ^ i * (q * 16) := by rw [← Nat.mul_assoc, Nat.mul_comm q (16 ^ i), Nat.mul_assoc]
    rw [e1, Nat.mul_add, Nat.mul_comm n]
    omega
  rw [Nat.pow_succ, e]
  rw [Nat.add_mul_div_left _ _ (pos16 i), Nat.div_eq_of_lt hl]
  omega
theorem dg_low (x q k j : Nat) (hk : k < j) : dg (q * 16 ^ j + x) k = dg x k := by
  unfold dg
  obtain ⟨d, rfl⟩ : ∃ d, j = k + (d + 1) := ⟨j - k - 1, by omega⟩
  rw [Nat.pow_add, ← Nat.mul_assoc, Nat.mul_comm q, Nat.mul_assoc, Nat.add_comm, Nat.add_mul_div_left _ _ (pos16 k), Nat.pow_succ, ← Nat.mul_assoc]
  omega
theorem dg_high (x q k j : Nat) (hk : j ≤ k) (hx : x < 16 ^ j) : dg (q * 16 ^ j + x) k = dg (q * 16 ^ j) k := by
  unfold dg
  obtain ⟨d, rfl⟩ : ∃ d, k = j + d := ⟨k - j, by omega⟩
  rw [Nat.pow_add, ← Nat.div_div_eq_div_mul, ← Nat.div_div_eq_div_mul, Nat.mul_comm q, Nat.add_comm, Nat.add_mul_div_left _ _ (pos16 j), Nat.div_eq_of_lt hx, Nat.zero_add, Nat.mul_div_cancel_left _ (pos16 j)]
theorem low_lt (w i : Nat) {n : Nat} (hn : n < 16) : n * 16 ^ i + w % 16 ^ i < 16 ^ (i + 1) := by
  have hl := Nat.mod_lt w (pos16 i)
  have h := Nat.mul_le_mul_right (16 ^ i) (show n ≤ 15 by omega)
  rw [Nat.pow_succ]
  omega
theorem dg_mod (w i k : Nat) (hk : k < i) : dg (w % 16 ^ i) k = dg w k := by
  have h := dg_low (w % 16 ^ i) (w / 16 ^ i) k i hk
  rw [Nat.div_add_mod'] at h
  exact h.symm
theorem dg_st_ne (w i k : Nat) {n : Nat} (hn : n < 16) (h : k ≠ i) : dg (st w i n) k = dg w k := by
  rcases Nat.lt_or_ge k i with hk | hk
  · unfold st
    rw [dg_low _ _ _ _ (by omega), dg_low _ _ _ _ hk, dg_mod _ _ _ hk]
  · have hk2 : i + 1 ≤ k := by omega
    unfold st
    rw [dg_high _ _ _ _ hk2 (low_lt w i hn), ← dg_high (w % 16 ^ (i + 1)) _ _ _ hk2 (Nat.mod_lt _ (pos16 _)), Nat.div_add_mod']
theorem dg_st (w i k : Nat) {n : Nat} (hn : n < 16) : dg (st w i n) k = if k = i then n else dg w k := by
  split
  · rename_i h; subst h; exact dg_st_self w k hn
  · rename_i h; exact dg_st_ne w i k hn h
theorem st_lt {w i n m : Nat} (hw : w < 16 ^ m) (hi : i < m) (hn : n < 16) : st w i n < 16 ^ m := by
  obtain ⟨d, rfl⟩ : ∃ d, m = (i + 1) + d := ⟨m - i - 1, by omega⟩
  have h1 : w / 16 ^ (i + 1) < 16 ^ d := by
    rw [Nat.div_lt_iff_lt_mul (pos16 _), Nat.mul_comm, ← Nat.pow_add]; exact hw
  have h2 := low_lt w i hn
  have h3 := Nat.mul_le_mul_right (16 ^ (i + 1)) (Nat.succ_le_of_lt h1)
  unfold st
  rw [Nat.succ_mul] at h3
  rw [Nat.pow_add 16 (i + 1) d, Nat.mul_comm (16 ^ (i + 1)) (16 ^ d)]
  omega
/-- as the code has them -/
theorem get_bits (w i : Nat) : w / 2 ^ (4 * i) &&& 15 = dg w i := by
  rw [Nat.and_two_pow_sub_one_eq_mod _ 4, Nat.pow_mul]
  rfl
theorem dg_and (x y k : Nat) : dg (x &&& y) k = dg x k &&& dg y k := by
  unfold dg
  rw [show (16 : Nat) ^ k = 2 ^ (4 * k) by rw [Nat.pow_mul], Nat.and_div_two_pow]
  exact Nat.and_mod_two_pow (n := 4)
theorem dg_or (x y k : Nat) : dg (x ||| y) k = dg x k ||| dg y k := by
  unfold dg
  rw [show (16 : Nat) ^ k = 2 ^ (4 * k) by rw [Nat.pow_mul], Nat.or_div_two_pow]
  exact Nat.or_mod_two_pow (n := 4)
theorem dg_xor (x y k : Nat) : dg (x ^^^ y) k = dg x k ^^^ dg y k := by
  unfold dg
  rw [show (16 : Nat) ^ k = 2 ^ (4 * k) by rw [Nat.pow_mul], Nat.xor_div_two_pow]
  exact Nat.xor_mod_two_pow (n := 4)
theorem dg_zero (k : Nat) : dg 0 k = 0 := by unfold dg; rw [Nat.zero_div]
theorem dg_one (n i k : Nat) (hn : n < 16) : dg (n * 16 ^ i) k = if k = i then n else 0 := by
  have h : st 0 i n = n * 16 ^ i := by unfold st; rw [Nat.zero_div, Nat.zero_mod]; omega
  rw [← h, dg_st _ _ _ hn, dg_zero]
/-- halved -/
theorem halve_dg (w k : Nat) (hk : k < 16) : dg (w / 2 &&& 8608480567731124087) k = dg w k / 2 := by
  have h7 : dg 8608480567731124087 k = 7 := by
    have : ∀ k : Fin 16, dg 8608480567731124087 k.1 = 7 := by decide
    exact this ⟨k, hk⟩
  rw [dg_and, h7, Nat.and_two_pow_sub_one_eq_mod _ 3]
  unfold dg
  rw [Nat.div_div_eq_div_mul, Nat.mul_comm 2, ← Nat.div_div_eq_div_mul]
  omega
theorem odd_dg (w k : Nat) (hk : k < 16) : dg (w &&& 1229782938247303441) k = dg w k % 2 := by
  have h1 : dg 1229782938247303441 k = 1 := by
    have : ∀ k : Fin 16, dg 1229782938247303441 k.1 = 1 := by decide
    exact this ⟨k, hk⟩
  rw [dg_and, h1, Nat.and_two_pow_sub_one_eq_mod _ 1]
/-- set, as the code has it -/
theorem set_dg (x i m : Nat) (hx : x < 18446744073709551616) (hi : i < 16) (hm : m < 16) : (x &&& (18446744073709551615 - 15 * 16 ^ i)) ||| m * 16 ^ i = st x i m := by
  have h1 : x &&& (18446744073709551615 - 15 * 16 ^ i) < 2 ^ 64 := Nat.lt_of_le_of_lt Nat.and_le_left hx
  have h2 : m * 16 ^ i < 2 ^ 64 := by
    have h3 := Nat.pow_le_pow_right (n := 16) (by omega) (show i ≤ 15 by omega)
    have h4 := Nat.mul_le_mul (show m ≤ 15 by omega) h3
    omega
  have hlt : (x &&& (18446744073709551615 - 15 * 16 ^ i)) ||| m * 16 ^ i < 16 ^ 16 := Nat.or_lt_two_pow (n := 64) h1 h2
  refine dg_ext 16 hlt (st_lt hx hi hm) fun k hk => ?_
  have hmask : ∀ i k : Fin 16, dg (18446744073709551615 - 15 * 16 ^ i.1) k.1 = if k.1 = i.1 then 0 else 15 := by decide +kernel
  have hk2 := hmask ⟨i, hi⟩ ⟨k, hk⟩
  simp only at hk2
  rw [dg_or, dg_and, hk2, dg_one _ _ _ hm, dg_st _ _ _ hm]
  split
  · simp
  · rw [Nat.and_two_pow_sub_one_eq_mod _ 4, Nat.or_zero]
    exact Nat.mod_eq_of_lt (dg_lt x k)
/-- one more -/
theorem inc_st (x i : Nat) : x + 16 ^ i = st x i (dg x i + 1) := by
  unfold st dg
  have h1 := Nat.div_add_mod' x (16 ^ i)
  have h2 : x / 16 ^ (i + 1) = x / 16 ^ i / 16 := by rw [Nat.pow_succ, Nat.div_div_eq_div_mul]
  rw [h2, Nat.pow_succ]
  generalize x % 16 ^ i = r at *
  generalize x / 16 ^ i = q at *
  have h3 : q / 16 * (16 ^ i * 16) = (q / 16 * 16) * 16 ^ i := by rw [Nat.mul_comm (16 ^ i), Nat.mul_assoc]
  have h4 : (q % 16 + 1) * 16 ^ i = q % 16 * 16 ^ i + 16 ^ i := by rw [Nat.succ_mul]
  have h5 : (q / 16 * 16) * 16 ^ i + q % 16 * 16 ^ i = q * 16 ^ i := by rw [← Nat.add_mul, Nat.div_add_mod']
  rw [h3, h4]
  omega
/-- the sum of the first counters -/
def sm (w : Nat) : Nat → Nat
  | 0 => 0
  | k + 1 => sm w k + dg w k
end NibPure
