/- MixBelow: of a size that is a power of two the place is the word's lowest bits: the walk. -/
import Derived.Test.YtpannfmbganifaaMixLaws
import Derived.Deep.QuietTactic
import Derived.BigQuiet
namespace Go.Proofs.Ytpannfmbganifaa
open Go.RowKit MixPure
set_option maxHeartbeats 800000 in
theorem below_core (h p i : Nat) (size P : Int) (hp : p ≤ 40) (hP : (2 : Int) ^ p = P) (hP1 : 1 ≤ P) (hP2 : P ≤ 1099511627776)
    (c1 : Tells 14 #[.int .u64 h, .int .i64 0, .int .i64 P] (.int .i64 i)) (c2 : Tells 14 #[.int .u64 h, .int .i64 0, .int .i64 1] (.int .i64 0))
    (c3 : size < 1 → Tells 14 #[.int .u64 h, .int .i64 3, .int .i64 size] (.int .i64 0)) (c4 : Tells 14 #[.int .u64 h, .int .i64 4, .int .i64 P] (.int .i64 i))
    (ha : bits .and .u64 h (P - 1) = (i : Int)) (hi : (i : Int) < P) (w : World) :
    Calls Try.prog 8 #[.int .u64 h, .int .i64 p, .int .i64 size] w fun e w' => e = .returned (.bool true) ∧ Below w.heap.size w w' := by
  unfold Tells at c1 c2 c3 c4
  have hw1 : IntKind.i64.wrap P = P := by rw [IntKind.wrap_i64]; omega
  have hw2 : IntKind.u64.wrap P = P := by rw [IntKind.wrap_u64]; omega
  have hw3 : IntKind.i64.wrap (i : Int) = i := by rw [IntKind.wrap_i64]; omega
  have hw4 : IntKind.u64.wrap (P - 1) = P - 1 := by rw [IntKind.wrap_u64]; omega
  by_cases hs : size < 1
  · have c3 := c3 hs
    have hd : decide (0 < size) = false := decide_eq_false (by omega)
    clear hs
    go_enter Try.func8, Try.ntmps8
    go_wp2_with fail
    go_at_call 9
    refine (small_calls _).mono ?_
    rintro e w1 ⟨rfl, rfl⟩
    go_wp2_with fail
    go_quiet (first
      | (go_at_call 14; with_reducible exact Calls.quiet_of_same ((c1 _).mono (fun _ _ h => ⟨h.1, h.2.symm⟩)))
      | (go_at_call 14; with_reducible exact Calls.quiet_of_same ((c2 _).mono (fun _ _ h => ⟨h.1, h.2.symm⟩)))
      | (go_at_call 14; with_reducible exact Calls.quiet_of_same ((c4 _).mono (fun _ _ h => ⟨h.1, h.2.symm⟩)))
      | (go_at_call 14; with_reducible exact Calls.quiet_of_same ((c3 _).mono (fun _ _ h => ⟨h.1, h.2.symm⟩))))
    go_wp2
    go_ret
    exact ⟨rfl, rfl, rfl, rfl, Nat.le_refl _, fun _ _ => rfl⟩
  · have hd : decide (0 < size) = true := decide_eq_true (by omega)
    clear c3 hs
    go_enter Try.func8, Try.ntmps8
    go_wp2_with fail
    go_at_call 9
    refine (small_calls _).mono ?_
    rintro e w1 ⟨rfl, rfl⟩
    go_wp2_with fail
    go_quiet (first
      | (go_at_call 14; with_reducible exact Calls.quiet_of_same ((c1 _).mono (fun _ _ h => ⟨h.1, h.2.symm⟩)))
      | (go_at_call 14; with_reducible exact Calls.quiet_of_same ((c2 _).mono (fun _ _ h => ⟨h.1, h.2.symm⟩)))
      | (go_at_call 14; with_reducible exact Calls.quiet_of_same ((c4 _).mono (fun _ _ h => ⟨h.1, h.2.symm⟩))))
    go_wp2
    go_ret
    exact ⟨rfl, rfl, rfl, rfl, Nat.le_refl _, fun _ _ => rfl⟩
theorem idx_pow {h : Nat} (hh : h < 18446744073709551616) (p : Nat) (hp : p ≤ 40) : bits .and .u64 (h : Int) ((2 : Int) ^ p - 1) = (idx h 0 ((2 : Int) ^ p) : Int) ∧ idx h 4 ((2 : Int) ^ p) = idx h 0 ((2 : Int) ^ p) := by
  have h1 : 1 ≤ 2 ^ p := Nat.one_le_two_pow
  have h2 : 2 ^ p ≤ 2 ^ 40 := Nat.pow_le_pow_right (by omega) hp
  have e : (2 : Int) ^ p = ((2 ^ p : Nat) : Int) := by simp
  rw [e]
  have e2 : ((2 ^ p : Nat) : Int) - 1 = ((2 ^ p - 1 : Nat) : Int) := by omega
  rw [e2, and_nat hh (by omega), Nat.and_two_pow_sub_one_eq_mod]
  unfold idx
  rw [if_neg (by omega), if_neg (by omega), Int.toNat_natCast]
  exact ⟨rfl, rfl⟩
theorem idx_lt' (h : Nat) (row size : Int) (hs : 1 ≤ size) : (idx h row size : Int) < size := by
  unfold idx
  rw [if_neg (by omega)]
  have := Nat.mod_lt (rt ((16 * row) % 64).toNat h) (show 0 < size.toNat by omega)
  omega
set_option maxHeartbeats 800000 in
theorem below_out (h : Nat) (p size : Int) (ho : p < 0 ∨ 0 ≤ p ∧ 40 < p) (w : World) :
    Calls Try.prog 8 #[.int .u64 h, .int .i64 p, .int .i64 size] w fun e w' => e = .returned (.bool true) ∧ Below w.heap.size w w' := by
  rcases ho with h1 | ⟨h1, h2⟩
  all_goals
    go_enter Try.func8, Try.ntmps8
    go_wp2_with fail
    go_at_call 9
    refine (small_calls _).mono ?_
    rintro e w1 ⟨rfl, rfl⟩
    go_wp2_with fail
    go_ret
    exact ⟨rfl, Below.refl _ _⟩
theorem below_walk (h : Nat) (hh : h < 18446744073709551616) (p : Nat) (size : Int) (hp : p ≤ 40) (hs : size ≤ 9223372036854775807) (w : World) :
    Calls Try.prog 8 #[.int .u64 h, .int .i64 p, .int .i64 size] w fun e w' => e = .returned (.bool true) ∧ Below w.heap.size w w' := by
  have h1 : 1 ≤ 2 ^ p := Nat.one_le_two_pow
  have h2 : 2 ^ p ≤ 2 ^ 40 := Nat.pow_le_pow_right (by omega) hp
  have e : (2 : Int) ^ p = ((2 ^ p : Nat) : Int) := by simp
  obtain ⟨k1, k2⟩ := idx_pow hh p hp
  have k3 := idx_lt' h 0 ((2 : Int) ^ p) (by omega)
  refine below_core h p (idx h 0 ((2 : Int) ^ p)) size _ hp rfl (by omega) (by omega) (fun w => index_calls h hh 0 _ (by omega) w) (fun w => ?_) (fun h3 w => ?_) (fun w => ?_) k1 k3 w
  · have k := index_calls h hh 0 1 (by omega) w
    rw [show idx h 0 1 = 0 from by unfold idx; rw [if_neg (by omega)]; exact Nat.mod_one _] at k
    exact k
  · have k := index_calls h hh 3 size hs w
    rw [show idx h 3 size = 0 from by unfold idx; rw [if_pos h3]] at k
    exact k
  · have k := index_calls h hh 4 ((2 : Int) ^ p) (by omega) w
    rw [k2] at k
    exact k
end Go.Proofs.Ytpannfmbganifaa
