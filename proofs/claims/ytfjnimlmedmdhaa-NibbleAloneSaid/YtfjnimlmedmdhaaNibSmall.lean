/- Layer 2: contracts for any input, and the statements' small case. -/
import Derived.Test.YtfjnimlmedmdhaaNibOdd
namespace Go.Proofs.Ytfjnimlmedmdhaa
open Go.RowKit NibPure Go.Sep
def getN (x : Nat) (i : Int) : Nat := if 0 ≤ i ∧ i < 16 then dg x i.toNat else 0
def setN (x : Nat) (i n : Int) : Nat := if 0 ≤ i ∧ i < 16 then st x i.toNat (min (max n 0) 15).toNat else x
def incB (x : Nat) (i : Int) : Bool := decide (0 ≤ i ∧ i < 16 ∧ dg x i.toNat < 15)
def incN (x : Nat) (i : Int) : Nat := if incB x i = true then st x i.toNat (dg x i.toNat + 1) else x
theorem in_or_out (i : Int) : (∃ k : Nat, i = k ∧ k < 16) ∨ (i < 0 ∨ 0 ≤ i ∧ 16 ≤ i) := by
  by_cases h : 0 ≤ i ∧ i < 16
  · exact .inl ⟨i.toNat, by omega, by omega⟩
  · exact .inr (by omega)
theorem getN_in (x k : Nat) (h : k < 16) : getN x (k : Int) = dg x k := by unfold getN; rw [if_pos (by omega), Int.toNat_natCast]
theorem getN_out (x : Nat) {i : Int} (h : i < 0 ∨ 0 ≤ i ∧ 16 ≤ i) : getN x i = 0 := by unfold getN; rw [if_neg (by omega)]
theorem setN_in (x k : Nat) (n : Int) (h : k < 16) : setN x (k : Int) n = st x k (min (max n 0) 15).toNat := by unfold setN; rw [if_pos (by omega), Int.toNat_natCast]
theorem setN_out (x : Nat) {i : Int} (n : Int) (h : i < 0 ∨ 0 ≤ i ∧ 16 ≤ i) : setN x i n = x := by unfold setN; rw [if_neg (by omega)]
theorem incB_in (x k : Nat) (h : k < 16) : incB x (k : Int) = decide (dg x k < 15) := by
  unfold incB
  rw [Int.toNat_natCast]
  by_cases hd : dg x k < 15
  · rw [decide_eq_true hd, decide_eq_true ⟨by omega, by omega, hd⟩]
  · rw [decide_eq_false hd, decide_eq_false (fun h => hd h.2.2)]
theorem incB_out (x : Nat) {i : Int} (h : i < 0 ∨ 0 ≤ i ∧ 16 ≤ i) : incB x i = false := decide_eq_false (by omega)
theorem incN_out (x : Nat) {i : Int} (h : i < 0 ∨ 0 ≤ i ∧ 16 ≤ i) : incN x i = x := by unfold incN; rw [incB_out x h]; rfl
theorem incN_more (x k : Nat) (h : k < 16) (hd : dg x k < 15) : incN x (k : Int) = st x k (dg x k + 1) := by
  unfold incN
  rw [incB_in x k h, decide_eq_true hd, if_pos rfl, Int.toNat_natCast]
theorem incN_full (x k : Nat) (h : k < 16) (hd : dg x k = 15) : incN x (k : Int) = x := by
  unfold incN
  rw [incB_in x k h, decide_eq_false (by omega)]
  rfl
theorem setN_lt (x : Nat) (hx : x < 18446744073709551616) (i n : Int) : setN x i n < 18446744073709551616 := by
  rcases in_or_out i with ⟨k, rfl, hk⟩ | h
  · rw [setN_in x k n hk]; exact st_lt (m := 16) hx hk (by omega)
  · rw [setN_out x n h]; exact hx
theorem incN_lt (x : Nat) (hx : x < 18446744073709551616) (i : Int) : incN x i < 18446744073709551616 := by
  rcases in_or_out i with ⟨k, rfl, hk⟩ | h
  · by_cases hd : dg x k < 15
    · rw [incN_more x k hk hd]; exact st_lt (m := 16) hx hk (by omega)
    · rw [incN_full x k hk (by have := dg_lt x k; omega)]; exact hx
  · rw [incN_out x h]; exact hx
theorem getN_lt (x : Nat) (i : Int) : getN x i < 16 := by
  unfold getN
  split
  · exact dg_lt _ _
  · omega
section
variable (x : Nat) (hx : x < 18446744073709551616)
include hx
theorem get_any (i : Int) : Tells 12 #[.int .u64 x, .int .i64 i] (.int .i64 (getN x i)) := by
  rcases in_or_out i with ⟨k, rfl, hk⟩ | h
  · rw [getN_in x k hk]; exact get_in x hx k hk
  · rw [getN_out x h]; exact get_out x i h
theorem rget_any (i : Int) : Tells 13 #[.int .u64 x, .int .i64 i] (.int .i64 (getN x i)) := by
  rcases in_or_out i with ⟨k, rfl, hk⟩ | h
  · rw [getN_in x k hk]; exact ref_get_in x hx k hk
  · rw [getN_out x h]; exact ref_get_out x i h
theorem set_any (i n : Int) : TellsB 14 #[.int .u64 x, .int .i64 i, .int .i64 n] (.int .u64 (setN x i n)) := by
  intro w
  rcases in_or_out i with ⟨k, rfl, hk⟩ | h
  · rw [setN_in x k n hk]
    exact (set_in x hx k n hk w).mono fun e w' ⟨he, m, hm⟩ => ⟨he, by rw [hm]; exact ⟨rfl, rfl, rfl, Nat.le_refl _, fun _ _ => rfl⟩⟩
  · rw [setN_out x n h]
    exact (set_out x i n h w).mono fun e w' ⟨he, hm⟩ => ⟨he, hm ▸ Below.refl _ _⟩
theorem rset_any (i n : Int) : TellsB 15 #[.int .u64 x, .int .i64 i, .int .i64 n] (.int .u64 (setN x i n)) := by
  rcases in_or_out i with ⟨k, rfl, hk⟩ | h
  · rw [setN_in x k n hk]; exact ref_set_in x hx k n hk
  · rw [setN_out x n h]; exact ref_set_out x hx i n h
theorem inc_any (i : Int) : Tells 10 #[.int .u64 x, .int .i64 i] (.tuple #[.int .u64 (incN x i), .bool (incB x i)]) := by
  rcases in_or_out i with ⟨k, rfl, hk⟩ | h
  · by_cases hd : dg x k < 15
    · rw [incN_more x k hk hd, incB_in x k hk, decide_eq_true hd]; exact inc_in x hx k hk hd
    · have h15 : dg x k = 15 := by have := dg_lt x k; omega
      rw [incN_full x k hk h15, incB_in x k hk, decide_eq_false hd]; exact inc_full x hx k hk h15
  · rw [incN_out x h, incB_out x h]; exact inc_out x i h
theorem rinc_any (i : Int) : TellsB 11 #[.int .u64 x, .int .i64 i] (.tuple #[.int .u64 (incN x i), .bool (incB x i)]) := by
  rcases in_or_out i with ⟨k, rfl, hk⟩ | h
  · by_cases hd : dg x k < 15
    · rw [incN_more x k hk hd, incB_in x k hk, decide_eq_true hd]; exact ref_inc_in x hx k hk hd
    · have h15 : dg x k = 15 := by have := dg_lt x k; omega
      rw [incN_full x k hk h15, incB_in x k hk, decide_eq_false hd]; exact ref_inc_full x hx k hk h15
  · rw [incN_out x h, incB_out x h]; exact ref_inc_out x i h
end
def halfN (x : Nat) : Nat := x / 2 &&& 8608480567731124087
theorem halfN_lt (x : Nat) : halfN x < 18446744073709551616 := Nat.lt_of_le_of_lt Nat.and_le_right (by omega)
theorem halfN_dg (x k : Nat) (hk : k < 16) : dg (halfN x) k = dg x k / 2 := halve_dg x k hk
theorem half_any (x : Nat) (hx : x < 18446744073709551616) : Tells 18 #[.int .u64 x] (.int .u64 (halfN x)) := halve_calls x hx
theorem rhalf_any (x : Nat) (hx : x < 18446744073709551616) : TellsB 19 #[.int .u64 x] (.int .u64 (halfN x)) := ref_halve x hx
set_option maxHeartbeats 800000 in
theorem small_calls : TellsB 9 #[] (.bool true) := by
  intro w
  have c1 : Tells 10 #[.int .u64 47, .int .i64 0] (.tuple #[.int .u64 47, .bool false]) := inc_full 47 (by omega) 0 (by omega) (by decide)
  have c2 : Tells 10 #[.int .u64 47, .int .i64 1] (.tuple #[.int .u64 63, .bool true]) := inc_in 47 (by omega) 1 (by omega) (by decide)
  have c3 : Tells 12 #[.int .u64 47, .int .i64 1] (.int .i64 2) := get_in 47 (by omega) 1 (by omega)
  have c4 : Tells 18 #[.int .u64 47] (.int .u64 23) := halve_calls 47 (by omega)
  have c5 : Calls Try.prog 20 #[.int .u64 47] w fun e w' => e = .returned (.int .i64 17) ∧ Below w.heap.size w w' := sum_calls 47 (by omega) w
  have c6 : Tells 22 #[.int .u64 47] (.int .i64 1) := odd_calls 47 (by omega)
  have c7 : TellsB 14 #[.int .u64 0, .int .i64 2, .int .i64 99] (.int .u64 3840) := set_any 0 (by omega) 2 99
  go_enter Try.func9, Try.ntmps9
  go_wp2_with fail
  go_at_call 10
  refine (c1 _).mono ?_
  rintro e w1 ⟨rfl, rfl⟩
  go_wp2_with fail
  go_at_call 10
  refine (c2 _).mono ?_
  rintro e w1 ⟨rfl, rfl⟩
  go_wp2_with fail
  go_at_call 12
  refine (c3 _).mono ?_
  rintro e w1 ⟨rfl, rfl⟩
  go_wp2_with fail
  go_at_call 18
  refine (c4 _).mono ?_
  rintro e w1 ⟨rfl, rfl⟩
  go_wp2_with fail
  go_at_call 20
  refine (c5).mono ?_
  rintro e w1 ⟨rfl, hb1⟩
  go_wp2_with fail
  go_at_call 22
  refine (c6 _).mono ?_
  rintro e w2 ⟨rfl, rfl⟩
  go_wp2_with fail
  go_at_call 14
  refine (c7 _).mono ?_
  rintro e w2 ⟨rfl, hb2⟩
  go_wp2_with fail
  go_ret
  exact ⟨rfl, hb1.trans (hb2.mono hb1.size)⟩
end Go.Proofs.Ytfjnimlmedmdhaa
