/- The statements' small case of the ring comes out right. -/
import Derived.Test.YthnidiamgkjbkaaRing3
namespace Go.Proofs.Ythnidiamgkjbkaa
open Go.RowKit Go.Sep
set_option maxHeartbeats 800000 in
theorem small_calls (w0 : World) : Calls Try.prog 8 #[] w0 fun e w' => e = .returned (.bool true) ∧ Below w0.heap.size w0 w' := by
  have hO0 := Owned.nil w0
  have hs : ringSize 2 = 2 := by decide
  go_enter Try.func8, Try.ntmps8
  go_wp2_with fail
  go_at_call 9
  refine (ring_new 2 hO0).mono ?_
  rintro e w1 ⟨g, r1, rfl, hr1, hO1⟩
  rw [hs] at hr1
  go_wp2_with fail
  go_at_call 16
  refine (ring_offer 5 hr1 (by omega) hO1).mono ?_
  rintro e w2 ⟨r2, rfl, hr2, hO2⟩
  go_wp2_with fail
  go_at_call 16
  refine (ring_offer 6 hr2 (by decide) hO2).mono ?_
  rintro e w3 ⟨r3, rfl, hr3, hO3⟩
  go_wp2_with fail
  go_at_call 16
  refine (ring_offer 7 hr3 (by decide) hO3).mono ?_
  rintro e w4 ⟨r4, rfl, hr4, hO4⟩
  go_wp2_with fail
  go_at_call 11
  refine (ring_take hr4 hO4).mono ?_
  rintro e w5 ⟨r5, rfl, hr5, hO5⟩
  go_wp2_with fail
  go_at_call 14
  refine (ring_drain hr5 hO5).mono ?_
  rintro e w6 ⟨v, r6, r7, rfl, hrow, hr7, hO6⟩
  go_wp2_with fail
  go_at_call 11
  refine (ring_take hr7 hO6.comm).mono ?_
  rintro e w7 ⟨r8, rfl, hr8, hO7⟩
  go_wp2_with fail
  go_at_call 13
  refine (ints_calls _ _ [6] [6] _ ?ha ?hb).mono ?_
  case ha => exact (reads_of_row (l := [6]) hrow (by decide) hO7.comm).below ((Below.refl _ _).alloc (Nat.le_refl _) _)
  case hb => exact reads_lit w7 [6] 3 (by decide)
  rintro e w8 ⟨rfl, m, rfl⟩
  have hO8 := (hO7.alloc_ (.cells #[.int .i64 6] 3)).drewN m
  go_wp2_with fail
  go_at_call 19
  refine (ring_lost_calls hr8 hO8).mono ?_
  rintro e w9 ⟨rfl, rfl⟩
  go_wp2_with fail
  go_at_call 20
  refine (ring_size_calls hr8 hO8).mono ?_
  rintro e w9 ⟨rfl, rfl⟩
  go_wp2_with fail
  go_at_call 18
  refine (ring_len_calls hr8 hO8).mono ?_
  rintro e w9 ⟨rfl, rfl⟩
  go_wp2_with fail
  go_ret
  exact ⟨rfl, hO8.below⟩
end Go.Proofs.Ythnidiamgkjbkaa
