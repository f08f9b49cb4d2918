/- Contracts of layer 1's functions: words. -/
import Derived.Test.YtpannfmbganifaaProg
import Derived.Test.YtpannfmbganifaaMixPure
import Derived.WalkKit
import Derived.Lib.Hide
import Derived.Laws.BitsAllLaws
import Derived.Deep.LoopGhost
namespace Go.Proofs.Ytpannfmbganifaa
open Go.RowKit MixPure
/-- a number as a word -/
def wd (x : Int) : Nat := (x % 18446744073709551616).toNat
theorem wd_lt (x : Int) : wd x < 18446744073709551616 := by unfold wd; omega
theorem wrap_wd (x : Int) : IntKind.u64.wrap x = (wd x : Int) := by
  rw [IntKind.wrap_u64]; unfold wd; omega
theorem wd_nat (n : Nat) : wd (n : Int) = n % 18446744073709551616 := by unfold wd; omega
theorem wrap_nat (n : Nat) : IntKind.u64.wrap (n : Int) = ((n % 18446744073709551616 : Nat) : Int) := by rw [wrap_wd, wd_nat]
theorem xor_nat {a b : Nat} (ha : a < 18446744073709551616) (hb : b < 18446744073709551616) : bits .xor .u64 (a : Int) (b : Int) = ((a ^^^ b : Nat) : Int) := by
  have e : bits .xor .u64 (a : Int) (b : Int) = IntKind.u64.wrap ((BitVec.ofInt 64 (a : Int) ^^^ BitVec.ofInt 64 (b : Int)).toNat : Int) := rfl
  rw [e, BitVec.toNat_xor, BitVec.ofInt_natCast, BitVec.ofInt_natCast, BitVec.toNat_ofNat, BitVec.toNat_ofNat, Nat.mod_eq_of_lt (a := a) ha, Nat.mod_eq_of_lt (a := b) hb, wrap_nat, Nat.mod_eq_of_lt (Nat.xor_lt_two_pow (n := 64) ha hb)]
theorem or_nat {a b : Nat} (ha : a < 18446744073709551616) (hb : b < 18446744073709551616) : bits .or .u64 (a : Int) (b : Int) = ((a ||| b : Nat) : Int) := by
  have e : bits .or .u64 (a : Int) (b : Int) = IntKind.u64.wrap ((BitVec.ofInt 64 (a : Int) ||| BitVec.ofInt 64 (b : Int)).toNat : Int) := rfl
  rw [e, BitVec.toNat_or, BitVec.ofInt_natCast, BitVec.ofInt_natCast, BitVec.toNat_ofNat, BitVec.toNat_ofNat, Nat.mod_eq_of_lt (a := a) ha, Nat.mod_eq_of_lt (a := b) hb, wrap_nat, Nat.mod_eq_of_lt (Nat.or_lt_two_pow (n := 64) ha hb)]
theorem and_nat {a b : Nat} (ha : a < 18446744073709551616) (hb : b < 18446744073709551616) : bits .and .u64 (a : Int) (b : Int) = ((a &&& b : Nat) : Int) := by
  have e : bits .and .u64 (a : Int) (b : Int) = IntKind.u64.wrap ((BitVec.ofInt 64 (a : Int) &&& BitVec.ofInt 64 (b : Int)).toNat : Int) := rfl
  rw [e, BitVec.toNat_and, BitVec.ofInt_natCast, BitVec.ofInt_natCast, BitVec.toNat_ofNat, BitVec.toNat_ofNat, Nat.mod_eq_of_lt (a := a) ha, Nat.mod_eq_of_lt (a := b) hb, wrap_nat, Nat.mod_eq_of_lt (Nat.and_lt_two_pow (n := 64) _ hb)]
/-- as the code has it -/
def mixI (k s : Int) : Int :=
  let x0 := bits .xor .u64 k (IntKind.u64.wrap (s * 11400714819323198485))
  let x1 := IntKind.u64.wrap (bits .xor .u64 x0 (x0 / 1073741824) * 13787848793156543929)
  let x2 := IntKind.u64.wrap (bits .xor .u64 x1 (x1 / 134217728) * 10723151780598845931)
  bits .xor .u64 x2 (x2 / 2147483648)
/-- a word, and it moved down -/
def sh (d x : Nat) : Nat := x ^^^ x >>> d
theorem sh_lt {d x : Nat} (hx : x < 18446744073709551616) : sh d x < 18446744073709551616 :=
  Nat.xor_lt_two_pow (n := 64) hx (Nat.lt_of_le_of_lt (Nat.shiftRight_le _ _) hx)
/-- the word of a key, step by step -/
def mix0 (k s : Nat) : Nat := k ^^^ s * 11400714819323198485 % 18446744073709551616
def mix1 (x : Nat) : Nat := sh 30 x * 13787848793156543929 % 18446744073709551616
def mix2 (x : Nat) : Nat := sh 27 x * 10723151780598845931 % 18446744073709551616
def mixN (k s : Nat) : Nat := sh 31 (mix2 (mix1 (mix0 k s)))
theorem mix0_lt {k : Nat} (hk : k < 18446744073709551616) (s : Nat) : mix0 k s < 18446744073709551616 := Nat.xor_lt_two_pow (n := 64) hk (Nat.mod_lt _ (by omega))
theorem mix1_lt (x : Nat) : mix1 x < 18446744073709551616 := Nat.mod_lt _ (by omega)
theorem mix2_lt (x : Nat) : mix2 x < 18446744073709551616 := Nat.mod_lt _ (by omega)
theorem mixN_lt (k s : Nat) : mixN k s < 18446744073709551616 := sh_lt (mix2_lt _)
theorem sh_int {x : Nat} (hx : x < 18446744073709551616) (d : Nat) : bits .xor .u64 (x : Int) ((x : Int) / ((2 ^ d : Nat) : Int)) = (sh d x : Int) := by
  rw [← Int.natCast_ediv, ← Nat.shiftRight_eq_div_pow, xor_nat hx (Nat.lt_of_le_of_lt (Nat.shiftRight_le _ _) hx)]
  rfl
theorem mul_nat (a b : Nat) : IntKind.u64.wrap ((a : Int) * (b : Int)) = ((a * b % 18446744073709551616 : Nat) : Int) := by rw [← Int.natCast_mul, wrap_nat]
theorem mix0_int {k : Nat} (hk : k < 18446744073709551616) (s : Nat) : bits .xor .u64 (k : Int) (IntKind.u64.wrap ((s : Int) * 11400714819323198485)) = (mix0 k s : Int) := by
  have h := mul_nat s 11400714819323198485
  have e : (((11400714819323198485 : Nat) : Int)) = 11400714819323198485 := rfl
  rw [e] at h
  rw [h, xor_nat hk (Nat.mod_lt _ (by omega))]
  rfl
theorem mix1_int {x : Nat} (hx : x < 18446744073709551616) : IntKind.u64.wrap (bits .xor .u64 (x : Int) ((x : Int) / 1073741824) * 13787848793156543929) = (mix1 x : Int) := by
  have h := mul_nat (sh 30 x) 13787848793156543929
  have h2 := sh_int hx 30
  have e : (((13787848793156543929 : Nat) : Int)) = 13787848793156543929 := rfl
  have e2 : ((2 ^ 30 : Nat) : Int) = 1073741824 := rfl
  rw [e] at h
  rw [e2] at h2
  rw [h2, h]
  rfl
theorem mix2_int {x : Nat} (hx : x < 18446744073709551616) : IntKind.u64.wrap (bits .xor .u64 (x : Int) ((x : Int) / 134217728) * 10723151780598845931) = (mix2 x : Int) := by
  have h := mul_nat (sh 27 x) 10723151780598845931
  have h2 := sh_int hx 27
  have e : (((10723151780598845931 : Nat) : Int)) = 10723151780598845931 := rfl
  have e2 : ((2 ^ 27 : Nat) : Int) = 134217728 := rfl
  rw [e] at h
  rw [e2] at h2
  rw [h2, h]
  rfl
theorem mix3_int {x : Nat} (hx : x < 18446744073709551616) : bits .xor .u64 (x : Int) ((x : Int) / 2147483648) = (sh 31 x : Int) := by
  have h2 := sh_int hx 31
  have e2 : ((2 ^ 31 : Nat) : Int) = 2147483648 := rfl
  rw [e2] at h2
  exact h2
theorem mixI_nat {k s : Nat} (hk : k < 18446744073709551616) : mixI (k : Int) (s : Int) = (mixN k s : Int) := by
  unfold mixI mixN
  simp only [mix0_int hk s, mix1_int (mix0_lt hk s), mix2_int (mix1_lt _), mix3_int (mix2_lt _)]
set_option maxHeartbeats 400000 in
theorem mix_calls (seed key : Int) (w : World) : Calls Try.prog 10 #[.int .i64 seed, .int .i64 key] w fun e w' => e = .returned (.int .u64 (mixN (wd key) (wd seed))) ∧ w = w' := by
  have hm : mixI (IntKind.u64.wrap key) (IntKind.u64.wrap seed) = (mixN (wd key) (wd seed) : Int) := by rw [wrap_wd, wrap_wd, mixI_nat (wd_lt key)]
  go_enter Try.func10, Try.ntmps10
  go_wp2
  go_ret
  exact ⟨by rw [← hm]; rfl, rfl⟩
set_option maxHeartbeats 400000 in
theorem rmix_calls (seed key : Int) (w : World) : Calls Try.prog 11 #[.int .i64 seed, .int .i64 key] w fun e w' => e = .returned (.int .u64 (mixN (wd key) (wd seed))) ∧ w = w' := by
  have hm : mixI (IntKind.u64.wrap key) (IntKind.u64.wrap seed) = (mixN (wd key) (wd seed) : Int) := by rw [wrap_wd, wrap_wd, mixI_nat (wd_lt key)]
  go_enter Try.func11, Try.ntmps11
  go_wp2
  go_ret
  exact ⟨by rw [← hm]; rfl, rfl⟩

/-! ### turns -/
theorem mask63 (k : Int) : bits .and .u64 (IntKind.u64.wrap k) 63 = (((k % 64).toNat : Nat) : Int) := by
  rw [wrap_wd, show (63 : Int) = ((63 : Nat) : Int) from rfl, and_nat (wd_lt k) (by omega), Nat.and_two_pow_sub_one_eq_mod _ 6]
  unfold wd
  omega
set_option maxHeartbeats 400000 in
theorem rot_calls (x : Nat) (hx : x < 18446744073709551616) (k : Int) (w : World) : Calls Try.prog 19 #[.int .u64 x, .int .i64 k] w fun e w' => e = .returned (.int .u64 (rt (k % 64).toNat x)) ∧ w = w' := by
  have hs := mask63 k
  have hs2 : (k % 64).toNat < 64 := by omega
  have ho := rt_or hx (n := (k % 64).toNat) (by omega)
  generalize (k % 64).toNat = s at *
  have hr : bits .or .u64 (IntKind.u64.wrap ((x : Int) * 2 ^ s)) ((x : Int) / 2 ^ (64 - s)) = (rt s x : Int) := by
    rw [show ((x : Int) * 2 ^ s) = ((x * 2 ^ s : Nat) : Int) by simp, wrap_nat, show (x : Int) / 2 ^ (64 - s) = ((x / 2 ^ (64 - s) : Nat) : Int) by simp, or_nat (Nat.mod_lt _ (by omega)) (Nat.lt_of_le_of_lt (Nat.div_le_self _ _) hx), ho]
  clear ho
  have HR := Lib.hid hr
  clear hr
  go_enter Try.func19, Try.ntmps19
  go_wp2
  go_ret
  exact ⟨by rw [← HR.out]; rfl, rfl⟩
set_option maxHeartbeats 400000 in
theorem turn_calls (x : Nat) (hx : x < 18446744073709551616) (k : Int) (w : World) : Calls Try.prog 12 #[.int .u64 x, .int .i64 k] w fun e w' => e = .returned (.int .u64 (rt (k % 64).toNat x)) ∧ w = w' := by
  have hr := fun w => rot_calls x hx (k.tmod 64) w
  have e1 : k.tmod 64 % 64 = k % 64 := by
    rw [Int.tmod_def]
    omega
  rw [e1] at hr
  go_enter Try.func12, Try.ntmps12
  go_wp2_with (go_at_call 19; refine (hr _).mono ?_; rintro e w' ⟨rfl, rfl⟩)
  go_ret
  exact ⟨rfl, rfl⟩
/-- one step of the document's turn -/
theorem r1_int {h : Nat} (hh : h < 18446744073709551616) : IntKind.u64.wrap (IntKind.u64.wrap ((h : Int) * 2) + (h : Int) / 9223372036854775808) = (r1 h : Int) := by
  rw [IntKind.wrap_u64, IntKind.wrap_u64]
  unfold r1
  omega
set_option maxHeartbeats 400000 in
theorem rturn_calls (x : Nat) (hx : x < 18446744073709551616) (k : Int) (w : World) : Calls Try.prog 13 #[.int .u64 x, .int .i64 k] w fun e w' => e = .returned (.int .u64 (rt (k % 64).toNat x)) ∧ w = w' := by
  have hd : k.tmod 64 = k - 64 * k.tdiv 64 := Int.tmod_def k 64
  have hb1 := Int.tmod_lt_of_pos k (show (0 : Int) < 64 by omega)
  have hb2 := Int.tmod_lt_of_pos (-k) (show (0 : Int) < 64 by omega)
  rw [Int.neg_tmod] at hb2
  obtain ⟨n, hn⟩ : ∃ n : Nat, (k % 64).toNat = n := ⟨_, rfl⟩
  have hn2 : n < 64 := by omega
  rw [hn]
  have hs : ∀ i, IntKind.u64.wrap (IntKind.u64.wrap ((rt i x : Int) * 2) + (rt i x : Int) / 9223372036854775808) = (rt (i + 1) x : Int) := fun i => r1_int (rt_lt hx i)
  have HS := Lib.hid hs
  clear hs
  have HD := Lib.hid hd
  have HN := Lib.hid hn
  clear hd hn
  by_cases hk : k.tmod 64 < 0
  · have e1 : k.tmod 64 + 64 = (n : Int) := by have := HD.out; have := HN.out; omega
    go_enter Try.func13, Try.ntmps13
    go_wp2
    go_loop [0, 6] (fun x0 x6 => ∃ i : Nat, i ≤ n ∧ x6 = .int .i64 i ∧ x0 = .int .u64 (rt i x)) (fun _ x6 => n - (intOf x6).toNat)
    case atStart => exact ⟨0, by omega, rfl, rfl⟩
    case round =>
      obtain ⟨i, hi, rfl, rfl⟩ := hrel
      by_cases hlt : i < n
      · go_wp2
        go_round
        case rel => exact ⟨i + 1, by omega, by go_num, by rw [← HS.out]⟩
        case measure => simp [intOf]; omega
      · obtain rfl : n = i := by omega
        go_wp2
        go_ret
        exact ⟨rfl, rfl⟩
  · have e1 : k.tmod 64 = (n : Int) := by have := HD.out; have := HN.out; omega
    go_enter Try.func13, Try.ntmps13
    go_wp2
    go_loop [0, 6] (fun x0 x6 => ∃ i : Nat, i ≤ n ∧ x6 = .int .i64 i ∧ x0 = .int .u64 (rt i x)) (fun _ x6 => n - (intOf x6).toNat)
    case atStart => exact ⟨0, by omega, rfl, rfl⟩
    case round =>
      obtain ⟨i, hi, rfl, rfl⟩ := hrel
      by_cases hlt : i < n
      · go_wp2
        go_round
        case rel => exact ⟨i + 1, by omega, by go_num, by rw [← HS.out]⟩
        case measure => simp [intOf]; omega
      · obtain rfl : n = i := by omega
        go_wp2
        go_ret
        exact ⟨rfl, rfl⟩
/-! ### words moved down, and there and back -/
set_option maxHeartbeats 400000 in
theorem unshift30_calls (x : Nat) (hx : x < 18446744073709551616) (w : World) : Calls Try.prog 22 #[.int .u64 x, .int .i64 30] w fun e w' => e = .returned (.int .u64 (g 30 x 3)) ∧ w = w' := by
  have hs : ∀ k, bits .xor .u64 (x : Int) ((g 30 x k : Int) / 1073741824) = (g 30 x (k + 1) : Int) := fun k => by
    rw [show (1073741824 : Int) = ((2 ^ 30 : Nat) : Int) from rfl, ← Int.natCast_ediv, ← Nat.shiftRight_eq_div_pow, xor_nat hx (Nat.lt_of_le_of_lt (Nat.shiftRight_le _ _) (g_lt 30 x hx k))]
    rfl
  have HS := Lib.hid hs
  clear hs
  go_enter Try.func22, Try.ntmps22
  go_wp2
  go_loop [5, 10] (fun x5 x10 => ∃ k : Nat, k ≤ 3 ∧ x10 = .int .i64 k ∧ x5 = .int .u64 (g 30 x k)) (fun _ x10 => 3 - (intOf x10).toNat)
  case atStart => exact ⟨0, by omega, rfl, rfl⟩
  case round =>
    obtain ⟨k, hk, rfl, rfl⟩ := hrel
    by_cases hlt : k < 3
    · go_wp2
      go_round
      case rel => exact ⟨k + 1, by omega, by go_num, by rw [← HS.out]⟩
      case measure => simp [intOf]; omega
    · obtain rfl : k = 3 := by omega
      go_wp2
      go_ret
      exact ⟨rfl, rfl⟩
set_option maxHeartbeats 400000 in
theorem unshift27_calls (x : Nat) (hx : x < 18446744073709551616) (w : World) : Calls Try.prog 22 #[.int .u64 x, .int .i64 27] w fun e w' => e = .returned (.int .u64 (g 27 x 3)) ∧ w = w' := by
  have hs : ∀ k, bits .xor .u64 (x : Int) ((g 27 x k : Int) / 134217728) = (g 27 x (k + 1) : Int) := fun k => by
    rw [show (134217728 : Int) = ((2 ^ 27 : Nat) : Int) from rfl, ← Int.natCast_ediv, ← Nat.shiftRight_eq_div_pow, xor_nat hx (Nat.lt_of_le_of_lt (Nat.shiftRight_le _ _) (g_lt 27 x hx k))]
    rfl
  have HS := Lib.hid hs
  clear hs
  go_enter Try.func22, Try.ntmps22
  go_wp2
  go_loop [5, 10] (fun x5 x10 => ∃ k : Nat, k ≤ 3 ∧ x10 = .int .i64 k ∧ x5 = .int .u64 (g 27 x k)) (fun _ x10 => 3 - (intOf x10).toNat)
  case atStart => exact ⟨0, by omega, rfl, rfl⟩
  case round =>
    obtain ⟨k, hk, rfl, rfl⟩ := hrel
    by_cases hlt : k < 3
    · go_wp2
      go_round
      case rel => exact ⟨k + 1, by omega, by go_num, by rw [← HS.out]⟩
      case measure => simp [intOf]; omega
    · obtain rfl : k = 3 := by omega
      go_wp2
      go_ret
      exact ⟨rfl, rfl⟩
set_option maxHeartbeats 400000 in
theorem unshift31_calls (x : Nat) (hx : x < 18446744073709551616) (w : World) : Calls Try.prog 22 #[.int .u64 x, .int .i64 31] w fun e w' => e = .returned (.int .u64 (g 31 x 3)) ∧ w = w' := by
  have hs : ∀ k, bits .xor .u64 (x : Int) ((g 31 x k : Int) / 2147483648) = (g 31 x (k + 1) : Int) := fun k => by
    rw [show (2147483648 : Int) = ((2 ^ 31 : Nat) : Int) from rfl, ← Int.natCast_ediv, ← Nat.shiftRight_eq_div_pow, xor_nat hx (Nat.lt_of_le_of_lt (Nat.shiftRight_le _ _) (g_lt 31 x hx k))]
    rfl
  have HS := Lib.hid hs
  clear hs
  go_enter Try.func22, Try.ntmps22
  go_wp2
  go_loop [5, 10] (fun x5 x10 => ∃ k : Nat, k ≤ 3 ∧ x10 = .int .i64 k ∧ x5 = .int .u64 (g 31 x k)) (fun _ x10 => 3 - (intOf x10).toNat)
  case atStart => exact ⟨0, by omega, rfl, rfl⟩
  case round =>
    obtain ⟨k, hk, rfl, rfl⟩ := hrel
    by_cases hlt : k < 3
    · go_wp2
      go_round
      case rel => exact ⟨k + 1, by omega, by go_num, by rw [← HS.out]⟩
      case measure => simp [intOf]; omega
    · obtain rfl : k = 3 := by omega
      go_wp2
      go_ret
      exact ⟨rfl, rfl⟩
/-- the inverse, as the code has it -/
def iv (odd : Int) : Nat → Int
  | 0 => odd
  | k + 1 => IntKind.u64.wrap (iv odd k * IntKind.u64.wrap (2 - IntKind.u64.wrap (odd * iv odd k)))
set_option maxHeartbeats 400000 in
theorem inverse_calls (x y : Int) (h : iv x 16 = y) (w : World) : Calls Try.prog 23 #[.int .u64 x] w fun e w' => e = .returned (.int .u64 y) ∧ w = w' := by
  have hs : ∀ k, IntKind.u64.wrap (iv x k * IntKind.u64.wrap (2 - IntKind.u64.wrap (x * iv x k))) = iv x (k + 1) := fun k => rfl
  have HS := Lib.hid hs
  have H := Lib.hid h
  clear hs h
  go_enter Try.func23, Try.ntmps23
  go_wp2
  go_loop [3, 5] (fun x3 x5 => ∃ k : Nat, k ≤ 16 ∧ x5 = .int .i64 k ∧ x3 = .int .u64 (iv x k)) (fun _ x5 => 16 - (intOf x5).toNat)
  case atStart => exact ⟨0, by omega, rfl, rfl⟩
  case round =>
    obtain ⟨k, hk, rfl, rfl⟩ := hrel
    by_cases hlt : k < 16
    · go_wp2
      go_round
      case rel => exact ⟨k + 1, by omega, by go_num, by rw [← HS.out]⟩
      case measure => simp [intOf]; omega
    · obtain rfl : k = 16 := by omega
      go_wp2
      go_ret
      exact ⟨by rw [← H.out]; rfl, rfl⟩
theorem iv1 : iv 13787848793156543929 16 = 10871156337175269513 := by decide +kernel
theorem iv2 : iv 10723151780598845931 16 = 3573116690164977347 := by decide +kernel
end Go.Proofs.Ytpannfmbganifaa
