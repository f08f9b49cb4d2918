/- RingFills: for every size and number of turns, a ring holds as many as it may, again and again, wherever it begins: the walk. -/
import Derived.Test.YthnidiamgkjbkaaRingSizes
namespace Go.Proofs.Ythnidiamgkjbkaa
open Go.RowKit Go.Sep
/-- 0, 1, .. -/
def upto (n : Nat) : List Int := (List.range n).map (fun j : Nat => (j : Int))
theorem upto_len (n : Nat) : (upto n).length = n := by simp [upto]
theorem upto_succ (n : Nat) : upto (n + 1) = upto n ++ [(n : Int)] := by simp [upto, List.range_succ]
theorem upto_get {n i : Nat} (h : i < n) : (upto n).getD i 0 = i := by simp [upto, List.getD, h]
set_option maxHeartbeats 800000 in
set_option maxRecDepth 100000 in
theorem fills_out (size turns : Int) (w0 : World) (ho : turns < 0 ∨ 50 < turns ∨ 0 ≤ turns ∧ turns ≤ 50 ∧ 256 < ringSize size) : Calls Try.prog 5 #[.int .i64 size, .int .i64 turns] w0 fun e w' => e = .returned (.bool true) ∧ Below w0.heap.size w0 w' := by
  have hb := ringSize_bd size
  have hnew := fun w F (h : Owned w0 w F) => ring_new size h
  generalize ringSize size = n at *
  obtain ⟨hb1, hb2, _⟩ := hb
  rcases ho with ho | ho | ⟨ho1, ho2, ho3⟩
  · go_enter Try.func5, Try.ntmps5
    go_wp2_with fail
    go_at_call 8
    refine (small_calls w0).mono ?_
    rintro e w1 ⟨rfl, hb1⟩
    obtain ⟨F, hO1⟩ : ∃ F, Owned w0 w1 F := ⟨[], (Owned.nil w0).under hb1⟩
    go_wp2_with fail
    go_at_call 9
    refine (hnew _ _ hO1).mono ?_
    rintro e w2 ⟨g, r, rfl, hr, hO2⟩
    go_wp2_with fail
    go_ret
    exact ⟨rfl, hO2.below⟩
  · go_enter Try.func5, Try.ntmps5
    go_wp2_with fail
    go_at_call 8
    refine (small_calls w0).mono ?_
    rintro e w1 ⟨rfl, hb1⟩
    obtain ⟨F, hO1⟩ : ∃ F, Owned w0 w1 F := ⟨[], (Owned.nil w0).under hb1⟩
    go_wp2_with fail
    go_at_call 9
    refine (hnew _ _ hO1).mono ?_
    rintro e w2 ⟨g, r, rfl, hr, hO2⟩
    go_wp2_with fail
    go_ret
    exact ⟨rfl, hO2.below⟩
  · go_enter Try.func5, Try.ntmps5
    go_wp2_with fail
    go_at_call 8
    refine (small_calls w0).mono ?_
    rintro e w1 ⟨rfl, hb1⟩
    obtain ⟨F, hO1⟩ : ∃ F, Owned w0 w1 F := ⟨[], (Owned.nil w0).under hb1⟩
    go_wp2_with fail
    go_at_call 9
    refine (hnew _ _ hO1).mono ?_
    rintro e w2 ⟨g, r, rfl, hr, hO2⟩
    go_wp2_with fail
    go_at_call 20
    refine (ring_size_calls hr hO2).mono ?_
    rintro e w3 ⟨rfl, rfl⟩
    go_wp2_with fail
    go_ret
    exact ⟨rfl, hO2.below⟩

def FillRel (w0 : World) (F : Own) (g n : Nat) (L : List Int) (w : World) : Prop := ∃ r, Ring g n L 0 r ∧ Owned w0 w (r ++ F)
set_option maxHeartbeats 1600000 in
set_option maxRecDepth 100000 in
theorem fills_walk (size : Int) (T : Nat) (w0 : World) (hT : T ≤ 50) (h256 : ringSize size ≤ 256) : Calls Try.prog 5 #[.int .i64 size, .int .i64 (T : Int)] w0 fun e w' => e = .returned (.bool true) ∧ Below w0.heap.size w0 w' := by
  have hb := ringSize_bd size
  have hf := size_facts size
  obtain ⟨hf1, _, hf3⟩ := hf
  have hf1' : size ≤ ringSize size := by rcases hf1 with h | h <;> omega
  clear hf1
  have hnew := fun w F (h : Owned w0 w F) => ring_new size h
  generalize ringSize size = n at *
  obtain ⟨hb1, hb2, _⟩ := hb
  go_enter Try.func5, Try.ntmps5
  go_wp2_with fail
  go_at_call 8
  refine (small_calls w0).mono ?_
  rintro e w1 ⟨rfl, hb1⟩
  obtain ⟨F, hO1⟩ : ∃ F, Owned w0 w1 F := ⟨[], (Owned.nil w0).under hb1⟩
  go_wp2_with fail
  go_at_call 9
  refine (hnew _ _ hO1).mono ?_
  rintro e w2 ⟨g, r, rfl, hr, hO2⟩
  go_wp2_with fail
  go_at_call 20
  refine (ring_size_calls hr hO2).mono ?_
  rintro e w3 ⟨rfl, rfl⟩
  go_wp2_with fail
  go_loopw [7] (fun x wr => ∃ k : Nat, k ≤ T ∧ x = .int .i64 k ∧ Hid (FillRel w0 F g n [] wr)) (fun x _ => T - (intOf x).toNat)
  case atStart => exact ⟨0, Nat.zero_le _, rfl, r, hr, hO2⟩
  case round =>
    obtain ⟨k, hk, rfl, hrel⟩ := hrel
    obtain ⟨r1, hr1, hO3⟩ := hrel.out
    by_cases hlt : k < T
    · have hroom : ([] : List Int).length < n := by simp; omega
      go_wp2_with fail
      go_at_call 16
      refine (ring_offer (k : Int) hr1 (by omega) hO3).mono ?_
      rintro e w4 ⟨r2, rfl, hr2, hO4⟩
      rw [if_pos hroom, if_pos hroom] at hr2
      rw [decide_eq_true hroom]
      go_wp2_with fail
      go_at_call 11
      refine (ring_take hr2 hO4).mono ?_
      rintro e w5 ⟨r3, rfl, hr3, hO5⟩
      go_wp2_with fail
      go_roundw
      case rel => exact ⟨k + 1, by omega, by go_num, r3, hr3, hO5⟩
      case measure => simp [intOf]; omega
    · clear hrel
      go_wp2_with fail
      go_loopw [10] (fun x wr => ∃ k : Nat, k ≤ n ∧ x = .int .i64 k ∧ Hid (FillRel w0 F g n (upto k) wr)) (fun x _ => n - (intOf x).toNat)
      case atStart => exact ⟨0, Nat.zero_le _, rfl, r1, hr1, hO3⟩
      case round =>
        obtain ⟨j, hj, rfl, hrel⟩ := hrel
        obtain ⟨r4, hr4, hO6⟩ := hrel.out
        clear hrel
        by_cases hlt2 : j < n
        · have hroom : (upto j).length < n := by rw [upto_len]; exact hlt2
          go_wp2_with fail
          go_at_call 20
          refine (ring_size_calls hr4 hO6).mono ?_
          rintro e w7 ⟨rfl, rfl⟩
          go_wp2_with fail
          go_at_call 16
          refine (ring_offer (j : Int) hr4 (by omega) hO6).mono ?_
          rintro e w8 ⟨r5, rfl, hr5, hO8⟩
          rw [if_pos hroom, if_pos hroom] at hr5
          rw [decide_eq_true hroom]
          go_wp2_with fail
          go_roundw
          case rel => exact ⟨j + 1, by omega, by go_num, r5, by rw [upto_succ]; exact hr5, hO8⟩
          case measure => simp [intOf]; omega
        · obtain rfl : n = j := by omega
          have hroom : ¬ (upto n).length < n := by rw [upto_len]; omega
          have hfull : decide ((upto n).length < n) = false := decide_eq_false hroom
          go_wp2_with fail
          go_at_call 20
          refine (ring_size_calls hr4 hO6).mono ?_
          rintro e w7 ⟨rfl, rfl⟩
          go_wp2_with fail
          go_at_call 16
          refine (ring_offer 9 hr4 (by omega) hO6).mono ?_
          rintro e w8 ⟨r5, rfl, hr5, hO8⟩
          rw [if_neg hroom, if_neg hroom] at hr5
          rw [hfull]
          go_wp2_with fail
          go_at_call 14
          refine (ring_drain hr5 hO8).mono ?_
          rintro e w9 ⟨v1, r6, r7, rfl, hrow, hr7, hO9⟩
          have hrd : Reads w9 v1 (upto n) := reads_of_row hrow (by rw [upto_len]; omega) hO9
          have hO9' := hO9.comm
          obtain ⟨_, A, c, rfl, hcell⟩ := hrd
          rw [upto_len] at *
          have HC := Lib.hid hcell
          clear hcell
          go_wp2_with fail
          go_loopw [13] (fun x wr => ∃ k : Nat, k ≤ n ∧ x = .int .i64 k ∧ w9 = wr) (fun x _ => n - (intOf x).toNat)
          case atStart => exact ⟨0, Nat.zero_le _, rfl, rfl⟩
          case round =>
            obtain ⟨i, hi, rfl, rfl⟩ := hrel
            by_cases hlt3 : i < n
            · obtain ⟨b, o, rfl, hc⟩ := HC.out (by omega)
              have ci := hc i hlt3
              rw [upto_get hlt3] at ci
              clear hc
              go_wp2_with fail
              go_roundw
              case rel => exact ⟨i + 1, by omega, by go_num, trivial⟩
              case measure => simp [intOf]; omega
            · go_wp2_with fail
              go_at_call 20
              refine (ring_size_calls hr7 hO9').mono ?_
              rintro e w10 ⟨rfl, rfl⟩
              go_wp2_with fail
              go_at_call 19
              refine (ring_lost_calls hr7 hO9').mono ?_
              rintro e w10 ⟨rfl, rfl⟩
              go_wp2_with fail
              go_at_call 20
              refine (ring_size_calls hr7 hO9').mono ?_
              rintro e w10 ⟨rfl, rfl⟩
              go_wp2_with fail
              go_at_call 20
              refine (ring_size_calls hr7 hO9').mono ?_
              rintro e w10 ⟨rfl, rfl⟩
              go_wp2_with fail
              go_at_call 20
              refine (ring_size_calls hr7 hO9').mono ?_
              rintro e w10 ⟨rfl, rfl⟩
              go_wp2_with fail
              go_ret
              exact ⟨rfl, hO9.below⟩
end Go.Proofs.Ythnidiamgkjbkaa
