/- Layer 7: the statements' small case comes out right. -/
import Derived.Test.YtlnokijfmkldkaaDq7
import Derived.Test.YtlnokijfmkldkaaDq8
import Derived.Test.YtlnokijfmkldkaaDq9
import Derived.Test.YtlnokijfmkldkaaWhole
namespace Go.Proofs.Ytlnokijfmkldkaa
open Go.RowKit Go.Sep DqPure
section
variable {F : Own} {w0 w : World}
def sm0 : Nat → List (Int × Int) := fun _ => []
def sm1 : Nat → List (Int × Int) := updS sm0 0 (sm0 0 ++ [(5, 3)])
def sm2 : Nat → List (Int × Int) := updS sm1 0 (sm1 0 ++ [(6, 4)])
def sm3 : Nat → List (Int × Int) := updS (updS sm2 0 ([] ++ [(6, 4)])) 0 (updS sm2 0 ([] ++ [(6, 4)]) 0 ++ [(5, 3)])
theorem absent2 {st : Nat → List (Int × Int)} {x : Int} (h0 : ∀ p ∈ st 0, p.1 ≠ x) (h1 : ∀ p ∈ st 1, p.1 ≠ x) : Absent 2 st x := by
  intro k hk
  rcases (by omega : k = 0 ∨ k = 1) with rfl | rfl
  · exact h0
  · exact h1
set_option maxHeartbeats 3200000 in
theorem dq_small0 (h : Owned w0 w F) : Calls Try.prog 8 #[] w fun e w' => e = .returned (.bool true) ∧ Owned w0 w' F := by
  have hN := dq_new 2 h
  rw [show rowsN 2 = 2 from rfl] at hN
  go_enter Try.func8, Try.ntmps8
  go_wp2_with fail
  go_at_call 9
  refine (hN).mono ?_
  rintro e w1 ⟨bx, r0, rfl, hD0, hO0⟩
  have P1 := dq_push_new (k := 0) (i := 5) (x := 3) (by omega) hD0 (by omega) (by omega) (absent2 (by simp) (by simp)) hO0
  go_wp2_with fail
  go_at_call 10
  refine (P1).mono ?_
  rintro e w2 ⟨rfl, r1, hD1, hO1⟩
  have hD1 : DqAt bx 2 1 sm1 r1 := hD1
  clear P1 hD0 hO0 hN
  have P2 := dq_push_new (k := 0) (i := 6) (x := 4) (by omega) hD1 (by omega) (by omega) (absent2 (by simp [sm1, sm0, updS]) (by simp [sm1, sm0, updS])) hO1
  go_wp2_with fail
  go_at_call 10
  refine (P2).mono ?_
  rintro e w3 ⟨rfl, r2, hD2, hO2⟩
  have hD2 : DqAt bx 2 2 sm2 r2 := hD2
  clear P2 hD1 hO1
  have P3 := dq_push_dup (k := 1) (j := 0) (i := 5) (x := 1) (z := 3) (xs := []) (ys := [(6, 4)]) hD2 (by omega) (by omega) (by omega) rfl hO2
  go_wp2_with fail
  go_at_call 10
  refine (P3).mono ?_
  rintro e w4 ⟨rfl, hB3⟩
  have hO3 := hO2.under hB3
  clear P3 hO2 hB3
  have P4 := dq_move_some (k := 0) (j := 0) (x := 5) (z := 3) (xs := []) (ys := [(6, 4)]) (by omega) hD2 (by omega) (by omega) rfl hO3
  go_wp2_with fail
  go_at_call 17
  refine (P4).mono ?_
  rintro e w5 ⟨rfl, r4, hD4, hO4⟩
  have hD4 : DqAt bx 2 2 sm3 r4 := hD4
  clear P4 hD2 hO3
  have P5 := dq_of_some (k := 0) (x := 5) (z := 3) (xs := [(6, 4)]) (ys := []) hD4 (wfk_id (by omega)) (by omega) rfl hO4
  go_wp2_with fail
  go_at_call 16
  refine (P5).mono ?_
  rintro e w6 ⟨rfl, hB5⟩
  have hO5 := hO4.under hB5
  clear P5 hO4 hB5
  have P6 := dq_front_some (k := 0) hD4 (by omega) hO5
  go_wp2_with fail
  go_at_call 11
  refine (P6).mono ?_
  rintro e w7 ⟨rfl, hB6⟩
  have hO6 := hO5.under hB6
  rw [show headI (sm3 0) = 6 from rfl]
  clear P6 hO5 hB6
  have P7 := dq_back_some (k := 0) hD4 (by omega) hO6
  go_wp2_with fail
  go_at_call 12
  refine (P7).mono ?_
  rintro e w8 ⟨rfl, hB7⟩
  have hO7 := hO6.under hB7
  rw [show lastI (sm3 0) = 5 from rfl]
  clear P7 hO6 hB7
  have P8 := dq_weight_some (k := 0) hD4 (by omega) hO7
  go_wp2_with fail
  go_at_call 15
  refine (P8).mono ?_
  rintro e w9 ⟨rfl, hB8⟩
  have hO8 := hO7.under hB8
  rw [show sumW (sm3 0) = 7 from rfl]
  clear P8 hO7 hB8
  have P9 := dq_len_some (k := 0) hD4 (by omega) hO8
  go_wp2_with fail
  go_at_call 13
  refine (P9).mono ?_
  rintro e w10 ⟨rfl, hB9⟩
  have hO9 := hO8.under hB9
  rw [show ((sm3 0).length : Int) = 2 from rfl]
  clear P9 hO8 hB9
  have PA := dq_front_some (k := 1) hD4 (by omega) hO9
  go_wp2_with fail
  go_at_call 11
  refine (PA).mono ?_
  rintro e w11 ⟨rfl, hBA⟩
  have hOA := hO9.under hBA
  rw [show headI (sm3 1) = 0 from rfl]
  clear PA hO9 hBA
  have PB := dq_unlink_none (x := 9) hD4 (wfk_id (by omega)) (absent2 (by simp [sm3, updS]) (by simp [sm3, sm2, sm1, sm0, updS])) hOA
  go_wp2_with fail
  go_at_call 14
  refine (PB).mono ?_
  rintro e w12 ⟨rfl, hBB⟩
  have hOB := hOA.under hBB
  clear PB hOA hBB
  go_wp2_with fail
  go_ret
  exact ⟨rfl, hOB.drop_⟩
end
end Go.Proofs.Ytlnokijfmkldkaa
