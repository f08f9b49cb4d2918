/- The statements of layer 1 on turns: the walks. -/
import Derived.Test.YtpannfmbganifaaMixLaws
import Derived.Deep.QuietTactic
import Derived.BigQuiet
namespace Go.Proofs.Ytpannfmbganifaa
open Go.RowKit MixPure
theorem turn_turn {h : Nat} (hh : h < 18446744073709551616) (a b : Int) : rt (b % 64).toNat (rt (a % 64).toNat h) = rt ((a + b) % 64).toNat h := by
  rw [← rt_add]
  have e : ((a % 64).toNat + (b % 64).toNat) % 64 = ((a + b) % 64).toNat := by omega
  rw [← rt_mod hh, e]
set_option maxHeartbeats 800000 in
theorem turns_out (h : Nat) (a b size : Int) (ho : a < -1099511627776 ∨ -1099511627776 ≤ a ∧ 1099511627776 < a ∨ -1099511627776 ≤ a ∧ a ≤ 1099511627776 ∧ b < -1099511627776 ∨ -1099511627776 ≤ a ∧ a ≤ 1099511627776 ∧ -1099511627776 ≤ b ∧ 1099511627776 < b) (w : World) :
    Calls Try.prog 6 #[.int .u64 h, .int .i64 a, .int .i64 b, .int .i64 size] w fun e w' => e = .returned (.bool true) ∧ w = w' := by
  rcases ho with h1 | ⟨h1, h2⟩ | ⟨h1, h2, h3⟩ | ⟨h1, h2, h3, h4⟩
  all_goals
    go_enter Try.func6, Try.ntmps6
    go_wp2_with fail
    go_at_call 9
    refine (small_calls _).mono ?_
    rintro e w1 ⟨rfl, rfl⟩
    go_wp2_with fail
    go_ret
    exact ⟨rfl, rfl⟩
set_option maxHeartbeats 800000 in
theorem turns_core (a b size : Int) (h t t2 i : Nat) (h1 : -1099511627776 ≤ a) (h2 : a ≤ 1099511627776) (h3 : -1099511627776 ≤ b) (h4 : b ≤ 1099511627776)
    (c0 : Tells 14 #[.int .u64 h, .int .i64 a, .int .i64 size] (.int .i64 i)) (c1 : Tells 12 #[.int .u64 h, .int .i64 a] (.int .u64 t)) (c2 : Tells 12 #[.int .u64 t, .int .i64 b] (.int .u64 t2))
    (c3 : Tells 12 #[.int .u64 h, .int .i64 (a + b)] (.int .u64 t2)) (c4 : Tells 12 #[.int .u64 h, .int .i64 64] (.int .u64 h)) (c5 : Tells 12 #[.int .u64 t, .int .i64 (-a)] (.int .u64 h))
    (hi : (i : Int) < size ∨ size < 1 ∧ i = 0) (w : World) :
    Calls Try.prog 6 #[.int .u64 h, .int .i64 a, .int .i64 b, .int .i64 size] w fun e w' => e = .returned (.bool true) ∧ w = w' := by
  go_enter Try.func6, Try.ntmps6
  go_wp2_with fail
  go_at_call 9
  refine (small_calls _).mono ?_
  rintro e w1 ⟨rfl, rfl⟩
  go_wp2_with fail
  go_at_call 14
  refine (c0 _).mono ?_
  rintro e w1 ⟨rfl, rfl⟩
  go_wp2_with fail
  go_at_call 12
  refine (c1 _).mono ?_
  rintro e w1 ⟨rfl, rfl⟩
  go_wp2_with fail
  go_at_call 12
  refine (c2 _).mono ?_
  rintro e w1 ⟨rfl, rfl⟩
  go_wp2_with fail
  go_at_call 12
  refine (c3 _).mono ?_
  rintro e w1 ⟨rfl, rfl⟩
  go_wp2_with fail
  go_at_call 12
  refine (c4 _).mono ?_
  rintro e w1 ⟨rfl, rfl⟩
  go_wp2_with fail
  go_at_call 12
  refine (c1 _).mono ?_
  rintro e w1 ⟨rfl, rfl⟩
  go_wp2_with fail
  go_at_call 12
  refine (c5 _).mono ?_
  rintro e w1 ⟨rfl, rfl⟩
  rcases hi with hi | ⟨hi, rfl⟩
  · go_wp2_with fail
    all_goals
      go_ret
      exact ⟨rfl, rfl⟩
  · go_wp2_with fail
    all_goals
      go_ret
      exact ⟨rfl, rfl⟩
theorem idx_lt (h : Nat) (row size : Int) : (idx h row size : Int) < size ∨ size < 1 ∧ idx h row size = 0 := by
  unfold idx
  by_cases hs : size < 1
  · rw [if_pos hs]; exact .inr ⟨hs, rfl⟩
  · rw [if_neg hs]
    have := Nat.mod_lt (rt ((16 * row) % 64).toNat h) (show 0 < size.toNat by omega)
    left; omega
theorem turns_walk (h : Nat) (hh : h < 18446744073709551616) (a b size : Int) (hs2 : size ≤ 9223372036854775807) (h1 : -1099511627776 ≤ a) (h2 : a ≤ 1099511627776) (h3 : -1099511627776 ≤ b) (h4 : b ≤ 1099511627776) (w : World) :
    Calls Try.prog 6 #[.int .u64 h, .int .i64 a, .int .i64 b, .int .i64 size] w fun e w' => e = .returned (.bool true) ∧ w = w' := by
  refine turns_core a b size h _ _ _ h1 h2 h3 h4 (fun w => index_calls h hh a size hs2 w) (fun w => turn_calls h hh a w) (fun w => turn_calls _ (rt_lt hh _) b w) (fun w => ?_) (fun w => ?_) (fun w => ?_) (idx_lt h a size) w
  · have k := turn_calls h hh (a + b) w
    rw [← turn_turn hh] at k
    exact k
  · have k := turn_calls h hh 64 w
    exact k
  · have k := turn_calls _ (rt_lt hh (a % 64).toNat) (-a) w
    rw [turn_turn hh, show a + -a = 0 by omega] at k
    exact k
set_option maxHeartbeats 800000 in
theorem wraps_out (h : Nat) (by_ : Int) (ho : by_ < -1099511627776 ∨ -1099511627776 ≤ by_ ∧ 1099511627776 < by_) (w : World) :
    Calls Try.prog 7 #[.int .u64 h, .int .i64 by_] w fun e w' => e = .returned (.bool true) ∧ w = w' := by
  rcases ho with h1 | ⟨h1, h2⟩
  all_goals
    go_enter Try.func7, Try.ntmps7
    go_wp2_with fail
    go_at_call 9
    refine (small_calls _).mono ?_
    rintro e w1 ⟨rfl, rfl⟩
    go_wp2_with fail
    go_ret
    exact ⟨rfl, rfl⟩
/-- one bit -/
theorem bit_nat {x : Nat} (hx : x < 18446744073709551616) (k : Nat) : bits .and .u64 ((x : Int) / 2 ^ k) 1 = ((x / 2 ^ k % 2 : Nat) : Int) := by
  have e : ((x : Int) / 2 ^ k) = ((x / 2 ^ k : Nat) : Int) := by simp
  have e1 : ((1 : Nat) : Int) = 1 := rfl
  rw [e, ← e1, and_nat (Nat.lt_of_le_of_lt (Nat.div_le_self _ _) hx) (by omega), Nat.and_two_pow_sub_one_eq_mod _ 1]
theorem pc_le (x : Nat) : ∀ k, pc x k ≤ k
  | 0 => Nat.le_refl _
  | k + 1 => by
    have := pc_le x k
    rw [pc]; omega
set_option maxHeartbeats 1600000 in
theorem wraps_core (by_ : Int) (h t : Nat) (hh : h < 18446744073709551616) (ht : t < 18446744073709551616) (h1 : -1099511627776 ≤ by_) (h2 : by_ ≤ 1099511627776)
    (c1 : Tells 12 #[.int .u64 h, .int .i64 by_] (.int .u64 t)) (c2 : Tells 12 #[.int .u64 h, .int .i64 (by_ + 64)] (.int .u64 t))
    (c3 : Tells 12 #[.int .u64 0, .int .i64 by_] (.int .u64 0)) (c4 : Tells 12 #[.int .u64 18446744073709551615, .int .i64 by_] (.int .u64 18446744073709551615))
    (hp : pc t 64 = pc h 64) (w : World) :
    Calls Try.prog 7 #[.int .u64 h, .int .i64 by_] w fun e w' => e = .returned (.bool true) ∧ Below w.heap.size w w' := by
  have hbh : ∀ k, bits .and .u64 ((h : Int) / 2 ^ k) 1 = ((h / 2 ^ k % 2 : Nat) : Int) := fun k => bit_nat hh k
  have hbt : ∀ k, bits .and .u64 ((t : Int) / 2 ^ k) 1 = ((t / 2 ^ k % 2 : Nat) : Int) := fun k => bit_nat ht k
  have HBH := Lib.hid hbh
  have HBT := Lib.hid hbt
  have HP := Lib.hid hp
  clear hp hbh hbt
  go_enter Try.func7, Try.ntmps7
  go_wp2_with fail
  go_at_call 9
  refine (small_calls _).mono ?_
  rintro e w1 ⟨rfl, rfl⟩
  go_wp2_with fail
  go_at_call 12
  refine (c1 _).mono ?_
  rintro e w1 ⟨rfl, rfl⟩
  go_wp2_with fail
  go_loopw [7, 8] (fun x7 x8 wr => Hid (Below w.heap.size w wr) ∧ ∃ k : Nat, k ≤ 64 ∧ x8 = .int .i64 k ∧ ∃ n : Int, x7 = .int .i64 n ∧ Hid (n = (pc h k : Int) - (pc t k : Int))) (fun _ x8 _ => 64 - (intOf x8).toNat)
  case atStart => exact ⟨Below.refl _ _, 0, by omega, rfl, 0, rfl, rfl⟩
  case round =>
    obtain ⟨hbel, k, hk, rfl, n, rfl, hrel⟩ := hrel
    have hn1 : -64 ≤ n := by have := hrel.out; have := pc_le h k; have := pc_le t k; omega
    have hn2 : n ≤ 64 := by have := hrel.out; have := pc_le h k; have := pc_le t k; omega
    by_cases hlt : k < 64
    · have e1 := HBH.out k
      have e2 := HBT.out k
      have b1 : h / 2 ^ k % 2 < 2 := Nat.mod_lt _ (by omega)
      have b2 : t / 2 ^ k % 2 < 2 := Nat.mod_lt _ (by omega)
      have p1 : pc h (k + 1) = pc h k + h / 2 ^ k % 2 := rfl
      have p2 : pc t (k + 1) = pc t k + t / 2 ^ k % 2 := rfl
      have P1 := Lib.hid p1
      have P2' := Lib.hid p2
      clear p1 p2
      generalize h / 2 ^ k % 2 = x at *
      generalize t / 2 ^ k % 2 = y at *
      go_wp2
      go_quiet (fail)
      go_wp2
      go_roundw
      case rel => exact ⟨hbel.out.trans ⟨rfl, rfl, rfl, Nat.le_refl _, fun _ _ => rfl⟩, k + 1, by omega, by go_num, _, rfl, by have := hrel.out; have := P1.out; have := P2'.out; show _ = _; omega⟩
      case measure => simp [intOf]; omega
    · obtain rfl : k = 64 := by omega
      have hn : n = 0 := by have := hrel.out; have := HP.out; omega
      clear hrel hn1 hn2
      subst hn
      go_wp2_with fail
      go_at_call 12
      refine (c2 _).mono ?_
      rintro e w1 ⟨rfl, rfl⟩
      go_wp2_with fail
      go_at_call 12
      refine (c3 _).mono ?_
      rintro e w1 ⟨rfl, rfl⟩
      go_wp2_with fail
      go_at_call 12
      refine (c4 _).mono ?_
      rintro e w1 ⟨rfl, rfl⟩
      go_wp2_with fail
      go_ret
      exact ⟨rfl, hbel.out⟩
theorem wraps_walk (h : Nat) (hh : h < 18446744073709551616) (by_ : Int) (h1 : -1099511627776 ≤ by_) (h2 : by_ ≤ 1099511627776) (w : World) :
    Calls Try.prog 7 #[.int .u64 h, .int .i64 by_] w fun e w' => e = .returned (.bool true) ∧ Below w.heap.size w w' := by
  refine wraps_core by_ h (rt (by_ % 64).toNat h) hh (rt_lt hh _) h1 h2 (fun w => turn_calls h hh by_ w) (fun w => ?_) (fun w => ?_) (fun w => ?_) (pc_rt hh _) w
  · have k := turn_calls h hh (by_ + 64) w
    rw [show (by_ + 64) % 64 = by_ % 64 by omega] at k
    exact k
  · have k := turn_calls 0 (by omega) by_ w
    rw [rt_zero] at k
    exact k
  · have k := turn_calls 18446744073709551615 (by omega) by_ w
    rw [rt_full] at k
    exact k
end Go.Proofs.Ytpannfmbganifaa
