/- Contracts of layer 1's functions: places, and the key of a word. -/
import Derived.Test.YtpannfmbganifaaMix
import Derived.Test.YtpannfmbganifaaCeil
namespace Go.Proofs.Ytpannfmbganifaa
open Go.RowKit MixPure
/-- a place -/
def idx (h : Nat) (row size : Int) : Nat := if size < 1 then 0 else rt ((16 * row) % 64).toNat h % size.toNat
theorem turn_wrap (row : Int) : ((wrap64 (16 * row)) % 64).toNat = ((16 * row) % 64).toNat := by
  rw [wrap64]; omega
theorem wrap_mod (t : Nat) {size : Int} (h1 : 1 ≤ size) (h2 : size ≤ 9223372036854775807) : wrap64 ((t : Int) % size) = ((t % size.toNat : Nat) : Int) := by
  obtain ⟨s, rfl⟩ : ∃ s : Nat, size = s := ⟨size.toNat, by omega⟩
  rw [Int.toNat_natCast, ← Int.natCast_emod]
  have h3 : t % s < s := Nat.mod_lt _ (by omega)
  rw [wrap64]
  omega
set_option maxHeartbeats 400000 in
theorem index_calls (h : Nat) (hh : h < 18446744073709551616) (row size : Int) (hs2 : size ≤ 9223372036854775807) (w : World) :
    Calls Try.prog 14 #[.int .u64 h, .int .i64 row, .int .i64 size] w fun e w' => e = .returned (.int .i64 (idx h row size)) ∧ w = w' := by
  unfold idx
  by_cases hs : size < 1
  · rw [if_pos hs]
    go_enter Try.func14, Try.ntmps14
    go_wp2
    go_ret
    exact ⟨rfl, rfl⟩
  · rw [if_neg hs]
    have ht := fun w => turn_calls h hh (wrap64 (16 * row)) w
    rw [turn_wrap] at ht
    generalize rt ((16 * row) % 64).toNat h = t at *
    have hw := wrap_mod t (show 1 ≤ size by omega) hs2
    have HW := Lib.hid hw
    clear hw
    go_enter Try.func14, Try.ntmps14
    go_wp2_with fail
    go_at_call 12
    refine (ht _).mono ?_
    rintro e w1 ⟨rfl, rfl⟩
    go_wp2_with fail
    go_ret
    exact ⟨by rw [← HW.out]; rfl, rfl⟩
set_option maxHeartbeats 400000 in
theorem rindex_calls (h : Nat) (hh : h < 18446744073709551616) (row size : Int) (hs2 : size ≤ 9223372036854775807) (w : World) :
    Calls Try.prog 15 #[.int .u64 h, .int .i64 row, .int .i64 size] w fun e w' => e = .returned (.int .i64 (idx h row size)) ∧ w = w' := by
  unfold idx
  by_cases hs : size < 1
  · rw [if_pos hs]
    go_enter Try.func15, Try.ntmps15
    go_wp2
    go_ret
    exact ⟨rfl, rfl⟩
  · rw [if_neg hs]
    have ht := fun w => rturn_calls h hh (wrap64 (16 * row)) w
    rw [turn_wrap] at ht
    generalize rt ((16 * row) % 64).toNat h = t at *
    have hw := wrap_mod t (show 1 ≤ size by omega) hs2
    have HW := Lib.hid hw
    clear hw
    go_enter Try.func15, Try.ntmps15
    go_wp2_with fail
    go_at_call 13
    refine (ht _).mono ?_
    rintro e w1 ⟨rfl, rfl⟩
    go_wp2_with fail
    go_ret
    exact ⟨by rw [← HW.out]; rfl, rfl⟩
/-- the key of a word, step by step -/
def bck2 (x : Nat) : Nat := x * 3573116690164977347 % 18446744073709551616
def bck1 (x : Nat) : Nat := x * 10871156337175269513 % 18446744073709551616
theorem bck2_lt (x : Nat) : bck2 x < 18446744073709551616 := Nat.mod_lt _ (by omega)
theorem bck1_lt (x : Nat) : bck1 x < 18446744073709551616 := Nat.mod_lt _ (by omega)
theorem bck2_mix {x : Nat} : bck2 (mix2 x) = sh 27 x % 18446744073709551616 := by
  unfold bck2 mix2
  rw [Nat.mod_mul_mod, Nat.mul_assoc, ← Nat.mul_mod_mod, inv2, Nat.mul_one]
theorem bck1_mix {x : Nat} : bck1 (mix1 x) = sh 30 x % 18446744073709551616 := by
  unfold bck1 mix1
  rw [Nat.mod_mul_mod, Nat.mul_assoc, ← Nat.mul_mod_mod, inv1, Nat.mul_one]
def backN (s h : Nat) : Nat := mix0 (g 30 (bck1 (g 27 (bck2 (g 31 h 3)) 3)) 3) s
theorem g_sh {d x : Nat} (hx : x < 18446744073709551616) (hd : 64 ≤ d * 4) : g d (sh d x) 3 = x := g_back d x 3 hx hd
theorem sh_g {d x : Nat} (hx : x < 18446744073709551616) (hd : 64 ≤ d * 4) : sh d (g d x 3) = x := g_forth d x 3 hx hd
theorem mix0_twice (k s : Nat) : mix0 (mix0 k s) s = k := by unfold mix0; rw [Nat.xor_assoc, Nat.xor_self, Nat.xor_zero]
theorem back_mix {k : Nat} (hk : k < 18446744073709551616) (s : Nat) : backN s (mixN k s) = k := by
  unfold backN mixN
  rw [g_sh (mix2_lt _) (by omega), bck2_mix, Nat.mod_eq_of_lt (sh_lt (mix1_lt _)), g_sh (mix1_lt _) (by omega), bck1_mix, Nat.mod_eq_of_lt (sh_lt (mix0_lt hk s)), g_sh (mix0_lt hk s) (by omega), mix0_twice]
theorem mix1_bck {x : Nat} (hx : x < 18446744073709551616) : mix1 (g 30 (bck1 x) 3) = x := by
  unfold mix1
  rw [sh_g (bck1_lt _) (by omega)]
  exact inv_mul _ _ _ hx inv1'
theorem mix2_bck {x : Nat} (hx : x < 18446744073709551616) : mix2 (g 27 (bck2 x) 3) = x := by
  unfold mix2
  rw [sh_g (bck2_lt _) (by omega)]
  exact inv_mul _ _ _ hx inv2'
theorem mix_back {h : Nat} (hh : h < 18446744073709551616) (s : Nat) : mixN (backN s h) s = h := by
  unfold backN mixN
  rw [mix0_twice, mix1_bck (g_lt 27 _ (bck2_lt _) 3), mix2_bck (g_lt 31 _ hh 3), sh_g hh (by omega)]
theorem backN_lt (s h : Nat) : backN s h < 18446744073709551616 := mix0_lt (g_lt 30 _ (bck1_lt _) 3) s
theorem wd_i64 {n : Nat} (hn : n < 18446744073709551616) : wd (wrap64 (n : Int)) = n := by
  rw [wrap64]; unfold wd; omega
theorem i64_wd {a : Int} (h1 : -9223372036854775808 ≤ a) (h2 : a ≤ 9223372036854775807) : wrap64 (wd a : Int) = a := by
  rw [wrap64]; unfold wd; omega
set_option maxHeartbeats 400000 in
theorem back_calls (seed : Int) (h : Nat) (hh : h < 18446744073709551616) (w : World) :
    Calls Try.prog 18 #[.int .i64 seed, .int .u64 h] w fun e w' => e = .returned (.int .i64 (wrap64 (backN (wd seed) h))) ∧ w = w' := by
  have c31 := fun w => unshift31_calls h hh w
  have m2 : IntKind.u64.wrap ((g 31 h 3 : Int) * 3573116690164977347) = (bck2 (g 31 h 3) : Int) := by
    have h := mul_nat (g 31 h 3) 3573116690164977347
    have e : ((3573116690164977347 : Nat) : Int) = 3573116690164977347 := rfl
    rw [e] at h
    exact h
  unfold backN
  have l2 := bck2_lt (g 31 h 3)
  generalize bck2 (g 31 h 3) = x2 at *
  have c27 := fun w => unshift27_calls x2 l2 w
  have m1 : IntKind.u64.wrap ((g 27 x2 3 : Int) * 10871156337175269513) = (bck1 (g 27 x2 3) : Int) := by
    have h := mul_nat (g 27 x2 3) 10871156337175269513
    have e : ((10871156337175269513 : Nat) : Int) = 10871156337175269513 := rfl
    rw [e] at h
    exact h
  have l1 := bck1_lt (g 27 x2 3)
  generalize bck1 (g 27 x2 3) = x1 at *
  have c30 := fun w => unshift30_calls x1 l1 w
  have m0 := mix0_int (g_lt 30 x1 l1 3) (wd seed)
  rw [← wrap_wd] at m0
  have i1 := fun w => inverse_calls 13787848793156543929 10871156337175269513 iv1 w
  have i2 := fun w => inverse_calls 10723151780598845931 3573116690164977347 iv2 w
  go_enter Try.func18, Try.ntmps18
  go_wp2_with fail
  go_at_call 22
  refine (c31 _).mono ?_
  rintro e w1 ⟨rfl, rfl⟩
  go_wp2_with fail
  go_at_call 23
  refine (i2 _).mono ?_
  rintro e w1 ⟨rfl, rfl⟩
  go_wp2_with fail
  go_at_call 22
  refine (c27 _).mono ?_
  rintro e w1 ⟨rfl, rfl⟩
  go_wp2_with fail
  go_at_call 23
  refine (i1 _).mono ?_
  rintro e w1 ⟨rfl, rfl⟩
  go_wp2_with fail
  go_at_call 22
  refine (c30 _).mono ?_
  rintro e w1 ⟨rfl, rfl⟩
  go_wp2_with fail
  go_ret
  exact ⟨rfl, rfl⟩
/-! ### the small case -/
set_option maxHeartbeats 400000 in
theorem ceil3_calls (w : World) : Calls Try.prog 16 #[.int .i64 5, .int .i64 3, .int .i64 64] w fun e w' => e = .returned (.int .i64 0) ∧ w = w' := by
  have h : (bits .and .i64 3 2 == 0) = false := by decide
  have hp : ∀ w, Calls Try.prog 20 #[.int .i64 3] w fun e w' => e = .returned (.bool false) ∧ w = w' := by
    intro w
    go_enter Try.func20, Try.ntmps20
    go_wp2
    go_ret
    exact ⟨rfl, rfl⟩
  go_enter Try.func16, Try.ntmps16
  go_wp2_with fail
  go_at_call 20
  refine (hp _).mono ?_
  rintro e w1 ⟨rfl, rfl⟩
  go_wp2
  go_ret
  exact ⟨rfl, rfl⟩
theorem rt65 : rt 1 1 = 2 := by decide
theorem rt63 : rt 63 1 = 9223372036854775808 := by decide +kernel
theorem idx7 : idx 7 0 4 = 3 := by decide
theorem mix12 : (((mixN (wd 1) (wd 0) : Nat) : Int) != ((mixN (wd 2) (wd 0) : Nat) : Int)) = true := by decide +kernel
theorem back9 : wrap64 ((backN (wd 5) (mixN (wd 9) (wd 5)) : Nat) : Int) = 9 := by
  rw [back_mix (wd_lt 9), i64_wd (by omega) (by omega)]
set_option maxHeartbeats 800000 in
theorem small_calls (w : World) : Calls Try.prog 9 #[] w fun e w' => e = .returned (.bool true) ∧ w = w' := by
  have c1 := fun w => turn_calls 1 (by omega) 65 w
  have c2 := fun w => turn_calls 1 (by omega) (-1) w
  have c3 := fun w => ceil_calls 17 16 64 4 6 rfl rfl (by omega) (by omega) w
  have c4 := fun w => ceil_calls 99 16 64 4 6 rfl rfl (by omega) (by omega) w
  have c6 := fun w => index_calls 7 (by omega) 0 4 (by omega) w
  have c7 := fun w => mix_calls 5 9 w
  have c8 := fun w => back_calls 5 (mixN (wd 9) (wd 5)) (mixN_lt _ _) w
  have c9 := fun w => mix_calls 0 1 w
  have c10 := fun w => mix_calls 0 2 w
  rw [show ((65 : Int) % 64).toNat = 1 from rfl, rt65] at c1
  rw [show ((-1 : Int) % 64).toNat = 63 from rfl, rt63] at c2
  rw [show P2 (up 17 4 (6 - 4)) = 32 from rfl] at c3
  rw [show P2 (up 99 4 (6 - 4)) = 64 from rfl] at c4
  rw [idx7] at c6
  rw [back9] at c8
  have h12 := mix12
  generalize mixN (wd 9) (wd 5) = m9 at *
  generalize mixN (wd 1) (wd 0) = m1 at *
  generalize mixN (wd 2) (wd 0) = m2 at *
  have H12 := Lib.hid h12
  clear h12
  go_enter Try.func9, Try.ntmps9
  go_wp2_with fail
  go_at_call 12
  refine (c1 _).mono ?_
  rintro e w1 ⟨rfl, rfl⟩
  go_wp2_with fail
  go_at_call 12
  refine (c2 _).mono ?_
  rintro e w1 ⟨rfl, rfl⟩
  go_wp2_with fail
  go_at_call 16
  refine (c3 _).mono ?_
  rintro e w1 ⟨rfl, rfl⟩
  go_wp2_with fail
  go_at_call 16
  refine (c4 _).mono ?_
  rintro e w1 ⟨rfl, rfl⟩
  go_wp2_with fail
  go_at_call 16
  refine (ceil3_calls _).mono ?_
  rintro e w1 ⟨rfl, rfl⟩
  go_wp2_with fail
  go_at_call 14
  refine (c6 _).mono ?_
  rintro e w1 ⟨rfl, rfl⟩
  go_wp2_with fail
  go_at_call 10
  refine (c7 _).mono ?_
  rintro e w1 ⟨rfl, rfl⟩
  go_wp2_with fail
  go_at_call 18
  refine (c8 _).mono ?_
  rintro e w1 ⟨rfl, rfl⟩
  go_wp2_with fail
  go_at_call 10
  refine (c9 _).mono ?_
  rintro e w1 ⟨rfl, rfl⟩
  go_wp2_with fail
  go_at_call 10
  refine (c10 _).mono ?_
  rintro e w1 ⟨rfl, rfl⟩
  go_wp2_with fail
  go_ret
  exact ⟨by rw [← H12.out]; rfl, rfl⟩
end Go.Proofs.Ytpannfmbganifaa
