/- Layer 3: the statements' small case comes out right. -/
import Derived.Test.YtpdboglgjpmcdaaSketch9
namespace Go.Proofs.Ytpdboglgjpmcdaa
open Go.RowKit NibPure Go.Sep
set_option maxHeartbeats 1600000 in
theorem small_calls (w0 : World) : Calls Try.prog 7 #[] w0 fun e w' => e = .returned (.bool true) ∧ Below w0.heap.size w0 w' := by
  have hO0 := Owned.nil w0
  have h1 : wordN 10 = 1 := by decide
  have c0 := s_new 10 1 hO0
  rw [h1] at c0
  obtain ⟨p, hp⟩ : ∃ p, plS 1 5 (16 * 1) = p := ⟨_, rfl⟩
  have HP := Lib.hid hp
  have E0 := Lib.hid (aloneS_zero p).symm
  have hm2 := aloneS_min p 2
  have HM2 := Lib.hid hm2
  have hm3 := aloneS_half p 2
  have HM3 := Lib.hid hm3
  clear hp h1 hm2 hm3
  go_enter Try.func7, Try.ntmps7
  go_wp2_with fail
  go_at_call 8
  refine (c0).mono ?_
  rintro e w1 ⟨g, r1, rfl, hr1, hO1⟩
  rw [E0.out] at hr1
  clear c0
  go_wp2_with fail
  go_at_call 12
  refine (s_add_alone 5 0 (more := true) HP.out rfl hr1 hO1).mono ?_
  rintro e w2 ⟨rfl, r2, hr2, hO2⟩
  go_wp2_with fail
  go_at_call 12
  refine (s_add_alone 5 1 (more := true) HP.out rfl hr2 hO2).mono ?_
  rintro e w3 ⟨rfl, r3, hr3, hO3⟩
  clear hr1 hO1 hr2 hO2
  go_wp2_with fail
  go_at_call 14
  refine (s_count 5 (m := 2) HP.out HM2.out hr3 hO3).mono ?_
  rintro e w4 ⟨rfl, hO4⟩
  go_wp2_with fail
  go_at_call 10
  refine (s_halve hr3 hO4).mono ?_
  rintro e w5 ⟨rfl, r5, hr5, hO5⟩
  clear hr3 hO3 hO4
  go_wp2_with fail
  go_at_call 19
  refine (s_width (W := 16) rfl hr5 hO5).mono ?_
  rintro e w6 ⟨rfl, rfl⟩
  go_wp2_with fail
  go_at_call 14
  refine (s_count 5 (m := 1) HP.out HM3.out hr5 hO5).mono ?_
  rintro e w7 ⟨rfl, hO7⟩
  go_wp2_with fail
  go_at_call 18
  refine (s_samples hr5 hO7).mono ?_
  rintro e w8 ⟨rfl, rfl⟩
  go_wp2_with fail
  go_at_call 17
  refine (s_row 3 (K := 3) rfl (by omega) hr5 hO7).mono ?_
  rintro e w9 ⟨v, q, rfl, hrow, hO9⟩
  obtain ⟨A, c, rfl⟩ := hrow.slice
  go_wp2_with fail
  go_at_call 17
  refine (sk_row_out 4 (Or.inr ⟨by omega, by omega⟩) _).mono ?_
  rintro e w10 ⟨rfl, rfl⟩
  go_wp2_with fail
  go_ret
  exact ⟨rfl, hO9.below⟩
end Go.Proofs.Ytpdboglgjpmcdaa
