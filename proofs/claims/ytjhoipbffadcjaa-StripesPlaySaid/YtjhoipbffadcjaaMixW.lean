/- Contracts of layer 1's functions: words, turns, places. -/
import Derived.Test.YtjhoipbffadcjaaWords
import Derived.Test.YtjhoipbffadcjaaMixPure
namespace Go.Proofs.Ytjhoipbffadcjaa
open Go.RowKit MixPure
/-- as the code has it -/
def mixI (k s : Int) : Int :=
  let x0 := bits .xor .u64 k (IntKind.u64.wrap (s * 11400714819323198485))
  let x1 := IntKind.u64.wrap (bits .xor .u64 x0 (x0 / 1073741824) * 13787848793156543929)
  let x2 := IntKind.u64.wrap (bits .xor .u64 x1 (x1 / 134217728) * 10723151780598845931)
  bits .xor .u64 x2 (x2 / 2147483648)
/-- a word, and it moved down -/
def sh (d x : Nat) : Nat := x ^^^ x >>> d
theorem sh_lt {d x : Nat} (hx : x < 18446744073709551616) : sh d x < 18446744073709551616 :=
  Nat.xor_lt_two_pow (n := 64) hx (Nat.lt_of_le_of_lt (Nat.shiftRight_le _ _) hx)
/-- the word of a key, step by step -/
def mix0 (k s : Nat) : Nat := k ^^^ s * 11400714819323198485 % 18446744073709551616
def mix1 (x : Nat) : Nat := sh 30 x * 13787848793156543929 % 18446744073709551616
def mix2 (x : Nat) : Nat := sh 27 x * 10723151780598845931 % 18446744073709551616
def mixN (k s : Nat) : Nat := sh 31 (mix2 (mix1 (mix0 k s)))
theorem mix0_lt {k : Nat} (hk : k < 18446744073709551616) (s : Nat) : mix0 k s < 18446744073709551616 := Nat.xor_lt_two_pow (n := 64) hk (Nat.mod_lt _ (by omega))
theorem mix1_lt (x : Nat) : mix1 x < 18446744073709551616 := Nat.mod_lt _ (by omega)
theorem mix2_lt (x : Nat) : mix2 x < 18446744073709551616 := Nat.mod_lt _ (by omega)
theorem mixN_lt (k s : Nat) : mixN k s < 18446744073709551616 := sh_lt (mix2_lt _)
theorem sh_int {x : Nat} (hx : x < 18446744073709551616) (d : Nat) : bits .xor .u64 (x : Int) ((x : Int) / ((2 ^ d : Nat) : Int)) = (sh d x : Int) := by
  rw [← Int.natCast_ediv, ← Nat.shiftRight_eq_div_pow, xor_nat hx (Nat.lt_of_le_of_lt (Nat.shiftRight_le _ _) hx)]
  rfl
theorem mix0_int {k : Nat} (hk : k < 18446744073709551616) (s : Nat) : bits .xor .u64 (k : Int) (IntKind.u64.wrap ((s : Int) * 11400714819323198485)) = (mix0 k s : Int) := by
  have h := mul_nat s 11400714819323198485
  have e : (((11400714819323198485 : Nat) : Int)) = 11400714819323198485 := rfl
  rw [e] at h
  rw [h, xor_nat hk (Nat.mod_lt _ (by omega))]
  rfl
theorem mix1_int {x : Nat} (hx : x < 18446744073709551616) : IntKind.u64.wrap (bits .xor .u64 (x : Int) ((x : Int) / 1073741824) * 13787848793156543929) = (mix1 x : Int) := by
  have h := mul_nat (sh 30 x) 13787848793156543929
  have h2 := sh_int hx 30
  have e : (((13787848793156543929 : Nat) : Int)) = 13787848793156543929 := rfl
  have e2 : ((2 ^ 30 : Nat) : Int) = 1073741824 := rfl
  rw [e] at h
  rw [e2] at h2
  rw [h2, h]
  rfl
theorem mix2_int {x : Nat} (hx : x < 18446744073709551616) : IntKind.u64.wrap (bits .xor .u64 (x : Int) ((x : Int) / 134217728) * 10723151780598845931) = (mix2 x : Int) := by
  have h := mul_nat (sh 27 x) 10723151780598845931
  have h2 := sh_int hx 27
  have e : (((10723151780598845931 : Nat) : Int)) = 10723151780598845931 := rfl
  have e2 : ((2 ^ 27 : Nat) : Int) = 134217728 := rfl
  rw [e] at h
  rw [e2] at h2
  rw [h2, h]
  rfl
theorem mix3_int {x : Nat} (hx : x < 18446744073709551616) : bits .xor .u64 (x : Int) ((x : Int) / 2147483648) = (sh 31 x : Int) := by
  have h2 := sh_int hx 31
  have e2 : ((2 ^ 31 : Nat) : Int) = 2147483648 := rfl
  rw [e2] at h2
  exact h2
theorem mixI_nat {k s : Nat} (hk : k < 18446744073709551616) : mixI (k : Int) (s : Int) = (mixN k s : Int) := by
  unfold mixI mixN
  simp only [mix0_int hk s, mix1_int (mix0_lt hk s), mix2_int (mix1_lt _), mix3_int (mix2_lt _)]
set_option maxHeartbeats 400000 in
theorem mix_calls (seed key : Int) (w : World) : Calls Try.prog 28 #[.int .i64 seed, .int .i64 key] w fun e w' => e = .returned (.int .u64 (mixN (wd key) (wd seed))) ∧ w = w' := by
  have hm : mixI (IntKind.u64.wrap key) (IntKind.u64.wrap seed) = (mixN (wd key) (wd seed) : Int) := by rw [wrap_wd, wrap_wd, mixI_nat (wd_lt key)]
  go_enter Try.func28, Try.ntmps28
  go_wp2
  go_ret
  exact ⟨by rw [← hm]; rfl, rfl⟩
/-! ### turns -/
theorem mask63 (k : Int) : bits .and .u64 (IntKind.u64.wrap k) 63 = (((k % 64).toNat : Nat) : Int) := by
  rw [wrap_wd, show (63 : Int) = ((63 : Nat) : Int) from rfl, and_nat (wd_lt k) (by omega), Nat.and_two_pow_sub_one_eq_mod _ 6]
  unfold wd
  omega
set_option maxHeartbeats 400000 in
theorem rot_calls (x : Nat) (hx : x < 18446744073709551616) (k : Int) (w : World) : Calls Try.prog 43 #[.int .u64 x, .int .i64 k] w fun e w' => e = .returned (.int .u64 (rt (k % 64).toNat x)) ∧ w = w' := by
  have hs := mask63 k
  have hs2 : (k % 64).toNat < 64 := by omega
  have ho := rt_or hx (n := (k % 64).toNat) (by omega)
  generalize (k % 64).toNat = s at *
  have hr : bits .or .u64 (IntKind.u64.wrap ((x : Int) * 2 ^ s)) ((x : Int) / 2 ^ (64 - s)) = (rt s x : Int) := by
    rw [show ((x : Int) * 2 ^ s) = ((x * 2 ^ s : Nat) : Int) by simp, wrap_nat, show (x : Int) / 2 ^ (64 - s) = ((x / 2 ^ (64 - s) : Nat) : Int) by simp, or_nat (Nat.mod_lt _ (by omega)) (Nat.lt_of_le_of_lt (Nat.div_le_self _ _) hx), ho]
  clear ho
  have HR := Lib.hid hr
  clear hr
  go_enter Try.func43, Try.ntmps43
  go_wp2
  go_ret
  exact ⟨by rw [← HR.out]; rfl, rfl⟩
set_option maxHeartbeats 400000 in
theorem turn_calls (x : Nat) (hx : x < 18446744073709551616) (k : Int) (w : World) : Calls Try.prog 40 #[.int .u64 x, .int .i64 k] w fun e w' => e = .returned (.int .u64 (rt (k % 64).toNat x)) ∧ w = w' := by
  have hr := fun w => rot_calls x hx (k.tmod 64) w
  have e1 : k.tmod 64 % 64 = k % 64 := by
    rw [Int.tmod_def]
    omega
  rw [e1] at hr
  go_enter Try.func40, Try.ntmps40
  go_wp2_with (go_at_call 43; refine (hr _).mono ?_; rintro e w' ⟨rfl, rfl⟩)
  go_ret
  exact ⟨rfl, rfl⟩
/-- a place -/
def idx (h : Nat) (row size : Int) : Nat := if size < 1 then 0 else rt ((16 * row) % 64).toNat h % size.toNat
theorem turn_wrap (row : Int) : ((wrap64 (16 * row)) % 64).toNat = ((16 * row) % 64).toNat := by
  rw [wrap64]; omega
theorem wrap_mod (t : Nat) {size : Int} (h1 : 1 ≤ size) (h2 : size ≤ 9223372036854775807) : wrap64 ((t : Int) % size) = ((t % size.toNat : Nat) : Int) := by
  obtain ⟨s, rfl⟩ : ∃ s : Nat, size = s := ⟨size.toNat, by omega⟩
  rw [Int.toNat_natCast, ← Int.natCast_emod]
  have h3 : t % s < s := Nat.mod_lt _ (by omega)
  rw [wrap64]
  omega
set_option maxHeartbeats 400000 in
theorem index_calls (h : Nat) (hh : h < 18446744073709551616) (row size : Int) (hs2 : size ≤ 9223372036854775807) (w : World) :
    Calls Try.prog 27 #[.int .u64 h, .int .i64 row, .int .i64 size] w fun e w' => e = .returned (.int .i64 (idx h row size)) ∧ w = w' := by
  unfold idx
  by_cases hs : size < 1
  · rw [if_pos hs]
    go_enter Try.func27, Try.ntmps27
    go_wp2
    go_ret
    exact ⟨rfl, rfl⟩
  · rw [if_neg hs]
    have ht := fun w => turn_calls h hh (wrap64 (16 * row)) w
    rw [turn_wrap] at ht
    generalize rt ((16 * row) % 64).toNat h = t at *
    have hw := wrap_mod t (show 1 ≤ size by omega) hs2
    have HW := Lib.hid hw
    clear hw
    go_enter Try.func27, Try.ntmps27
    go_wp2_with fail
    go_at_call 40
    refine (ht _).mono ?_
    rintro e w1 ⟨rfl, rfl⟩
    go_wp2_with fail
    go_ret
    exact ⟨by rw [← HW.out]; rfl, rfl⟩
theorem idx_lt (h : Nat) (row : Int) (n : Nat) (hn : 1 ≤ n) : idx h row n < n := by
  unfold idx
  rw [if_neg (by omega), Int.toNat_natCast]
  exact Nat.mod_lt _ (by omega)
end Go.Proofs.Ytjhoipbffadcjaa
