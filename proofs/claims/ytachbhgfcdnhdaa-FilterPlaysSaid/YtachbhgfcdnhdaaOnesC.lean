/- Contract: how many of a word's bits are on. -/
import Derived.Test.YtachbhgfcdnhdaaWords
import Derived.Test.YtachbhgfcdnhdaaPop
namespace Go.Proofs.Ytachbhgfcdnhdaa
open Go.RowKit
theorem and_lit (a m : Nat) (ha : a < 18446744073709551616) (hm : m < 18446744073709551616) : bits .and .u64 (a : Int) (m : Int) = ((a &&& m : Nat) : Int) := and_nat ha hm
theorem ones_w1 (x : Nat) (hx : x < 18446744073709551616) : IntKind.u64.wrap (bits .and .u64 ((x : Int) / 2) 6148914691236517205 + bits .and .u64 (x : Int) 6148914691236517205) = (Pop.sm2 2 32 x : Nat) := by
  have e : ((x / 2 : Nat) : Int) = (x : Int) / 2 := by omega
  have h1 := and_lit (x / 2) 6148914691236517205 (by omega) (by omega)
  have h2 := and_lit x 6148914691236517205 hx (by omega)
  have hl : Pop.sm2 2 32 x < 18446744073709551616 := Pop.sm2_lt 2 (by omega) 32 x
  rw [e] at h1
  have e5 : ((6148914691236517205 : Nat) : Int) = 6148914691236517205 := rfl
  rw [e5] at h1 h2
  rw [h1, h2, ← Int.natCast_add, Pop.step1, wrap_nat, Nat.mod_eq_of_lt hl]
theorem ones_w2 (x : Nat) (hx : x < 18446744073709551616) : IntKind.u64.wrap (bits .and .u64 ((x : Int) / 4) 3689348814741910323 + bits .and .u64 (x : Int) 3689348814741910323) = (Pop.sm2 4 16 x : Nat) := by
  have e : ((x / 4 : Nat) : Int) = (x : Int) / 4 := by omega
  have h1 := and_lit (x / 4) 3689348814741910323 (by omega) (by omega)
  have h2 := and_lit x 3689348814741910323 hx (by omega)
  have hl : Pop.sm2 4 16 x < 18446744073709551616 := Pop.sm2_lt 4 (by omega) 16 x
  rw [e] at h1
  have e5 : ((3689348814741910323 : Nat) : Int) = 3689348814741910323 := rfl
  rw [e5] at h1 h2
  rw [h1, h2, ← Int.natCast_add, Pop.step2, wrap_nat, Nat.mod_eq_of_lt hl]
theorem ones_w3 (x : Nat) (h16 : x / 16 + x < 18446744073709551616) (h : ∀ k, x / 16 ^ k % 16 ≤ 7) : bits .and .u64 (IntKind.u64.wrap ((x : Int) / 16 + (x : Int))) 1085102592571150095 = (Pop.sm2 16 8 x : Nat) := by
  have e : ((x / 16 + x : Nat) : Int) = (x : Int) / 16 + (x : Int) := by omega
  have h1 := and_lit (x / 16 + x) 1085102592571150095 h16 (by omega)
  have e5 : ((1085102592571150095 : Nat) : Int) = 1085102592571150095 := rfl
  rw [e5] at h1
  rw [← e, wrap_nat, Nat.mod_eq_of_lt h16, h1, Pop.step3 x h]
theorem ones_wn (y s : Nat) (h : y + y / s < 18446744073709551616) : IntKind.u64.wrap ((y : Int) + (y : Int) / (s : Int)) = ((y + y / s : Nat) : Int) := by
  have e : ((y + y / s : Nat) : Int) = (y : Int) + (y : Int) / (s : Int) := by rw [Int.natCast_add, Int.natCast_ediv]
  rw [← e, wrap_nat, Nat.mod_eq_of_lt h]
theorem bits7 (c : Nat) (hc : c < 18446744073709551616) : bits .and .i64 (wrap64 (c : Int)) 127 = ((c % 128 : Nat) : Int) := by
  show IntKind.i64.wrap ((BitVec.ofInt 64 (wrap64 (c : Int)) &&& BitVec.ofInt 64 127).toNat : Int) = _
  have e : BitVec.ofInt 64 (wrap64 (c : Int)) = BitVec.ofNat 64 c := by
    apply BitVec.eq_of_toNat_eq
    rw [BitVec.toNat_ofInt, BitVec.toNat_ofNat]
    unfold wrap64
    omega
  rw [e, BitVec.toNat_and, BitVec.toNat_ofNat, show (BitVec.ofInt 64 127).toNat = 127 from rfl, Nat.mod_eq_of_lt hc, Nat.and_two_pow_sub_one_eq_mod _ 7, IntKind.wrap_i64]
  omega
theorem sm2_top (x : Nat) : ∀ n, (∀ k, x / 16 ^ k % 16 ≤ 7) → x < 16 ^ n → x / 16 + x < 16 ^ n
  | 0, _, h => by rw [Nat.pow_zero] at h ⊢; omega
  | n + 1, h, hx => by
    have h1 := h n
    have h2 : x / 16 ^ n < 16 := by
      rw [Nat.div_lt_iff_lt_mul (Nat.pow_pos (by omega)), Nat.mul_comm, ← Nat.pow_succ]; exact hx
    rw [Nat.mod_eq_of_lt h2] at h1
    have h3 := Nat.div_add_mod x (16 ^ n)
    have h4 := Nat.mod_lt x (show 0 < 16 ^ n from Nat.pow_pos (by omega))
    have h5 := Nat.mul_le_mul_left (16 ^ n) h1
    rw [Nat.pow_succ] at hx ⊢
    omega
end Go.Proofs.Ytachbhgfcdnhdaa
