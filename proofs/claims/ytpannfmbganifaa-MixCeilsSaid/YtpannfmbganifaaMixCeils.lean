/- MixCeils: for all numbers, the least power of two that is as great: the walk. -/
import Derived.Test.YtpannfmbganifaaMixLaws
import Derived.Test.YtpannfmbganifaaPow62
namespace Go.Proofs.Ytpannfmbganifaa
open Go.RowKit
set_option maxHeartbeats 400000 in
theorem ceil_no (n A M : Int) (hA : A ≤ 9223372036854775807) (hM : M ≤ 9223372036854775807) (h : ¬ IsP A ∨ IsP A ∧ ¬ IsP M ∨ IsP A ∧ IsP M ∧ M < A) (w : World) :
    Calls Try.prog 16 #[.int .i64 n, .int .i64 A, .int .i64 M] w fun e w' => e = .returned (.int .i64 0) ∧ w = w' := by
  rcases h with h | ⟨⟨a, ha, rfl⟩, h⟩ | ⟨⟨a, ha, rfl⟩, ⟨m, hm, rfl⟩, hlt⟩
  · have c1 := fun w => pow_no A hA h w
    clear h
    go_enter Try.func16, Try.ntmps16
    go_wp2_with fail
    go_at_call 20
    refine (c1 _).mono ?_
    rintro e w1 ⟨rfl, rfl⟩
    go_wp2_with fail
    go_ret
    exact ⟨rfl, rfl⟩
  · have c1 := fun w => pow62_calls a ha w
    have c2 := fun w => pow_no M hM h w
    clear h
    go_enter Try.func16, Try.ntmps16
    go_wp2_with fail
    go_at_call 20
    refine (c1 _).mono ?_
    rintro e w1 ⟨rfl, rfl⟩
    go_wp2_with fail
    go_at_call 20
    refine (c2 _).mono ?_
    rintro e w1 ⟨rfl, rfl⟩
    go_wp2_with fail
    go_ret
    exact ⟨rfl, rfl⟩
  · have c1 := fun w => pow62_calls a ha w
    have c2 := fun w => pow62_calls m hm w
    go_enter Try.func16, Try.ntmps16
    go_wp2_with fail
    go_at_call 20
    refine (c1 _).mono ?_
    rintro e w1 ⟨rfl, rfl⟩
    go_wp2_with fail
    go_at_call 20
    refine (c2 _).mono ?_
    rintro e w1 ⟨rfl, rfl⟩
    go_wp2_with fail
    go_ret
    exact ⟨rfl, rfl⟩
theorem pow_any (n : Int) (hn : n ≤ 9223372036854775807) : ∃ b : Bool, (b = true ↔ IsP n) ∧ Tells 21 #[.int .i64 n] (.bool b) := by
  by_cases h : IsP n
  · refine ⟨true, by simp [h], ?_⟩
    obtain ⟨j, hj, rfl⟩ := h
    exact fun w => rpow62_calls j hj w
  · exact ⟨false, by simp [h], fun w => rpow_no n hn h w⟩
set_option maxHeartbeats 400000 in
theorem rceil_core (n A M : Int) (x y : Bool) (c1 : Tells 21 #[.int .i64 A] (.bool x)) (c2 : Tells 21 #[.int .i64 M] (.bool y)) (h : x = false ∨ x = true ∧ y = false ∨ x = true ∧ y = true ∧ M < A) (w : World) :
    Calls Try.prog 17 #[.int .i64 n, .int .i64 A, .int .i64 M] w fun e w' => e = .returned (.int .i64 0) ∧ w = w' := by
  rcases h with rfl | ⟨rfl, rfl⟩ | ⟨rfl, rfl, hlt⟩
  all_goals
    go_enter Try.func17, Try.ntmps17
    go_wp2_with fail
    go_at_call 21
    refine (c1 _).mono ?_
    rintro e w1 ⟨rfl, rfl⟩
    go_wp2_with fail
    go_at_call 21
    refine (c2 _).mono ?_
    rintro e w1 ⟨rfl, rfl⟩
    go_wp2_with fail
    go_ret
    exact ⟨rfl, rfl⟩
theorem rceil_no (n A M : Int) (hA : A ≤ 9223372036854775807) (hM : M ≤ 9223372036854775807) (h : ¬ IsP A ∨ IsP A ∧ ¬ IsP M ∨ IsP A ∧ IsP M ∧ M < A) (w : World) :
    Calls Try.prog 17 #[.int .i64 n, .int .i64 A, .int .i64 M] w fun e w' => e = .returned (.int .i64 0) ∧ w = w' := by
  obtain ⟨x, hx, c1⟩ := pow_any A hA
  obtain ⟨y, hy, c2⟩ := pow_any M hM
  refine rceil_core n A M x y c1 c2 ?_ w
  rcases h with h | ⟨h1, h2⟩ | ⟨h1, h2, h3⟩
  · exact .inl (by cases x <;> simp_all)
  · exact .inr (.inl ⟨hx.2 h1, by cases y <;> simp_all⟩)
  · exact .inr (.inr ⟨hx.2 h1, hy.2 h2, h3⟩)
set_option maxHeartbeats 400000 in
theorem ceils_zero (n A M : Int) (c1 : Tells 16 #[.int .i64 n, .int .i64 A, .int .i64 M] (.int .i64 0)) (c2 : Tells 17 #[.int .i64 n, .int .i64 A, .int .i64 M] (.int .i64 0)) (w : World) :
    Calls Try.prog 4 #[.int .i64 n, .int .i64 A, .int .i64 M] w fun e w' => e = .returned (.bool true) ∧ w = w' := by
  go_enter Try.func4, Try.ntmps4
  go_wp2_with fail
  go_at_call 9
  refine (small_calls _).mono ?_
  rintro e w1 ⟨rfl, rfl⟩
  go_wp2_with fail
  go_at_call 16
  refine (c1 _).mono ?_
  rintro e w1 ⟨rfl, rfl⟩
  go_wp2_with fail
  go_at_call 17
  refine (c2 _).mono ?_
  rintro e w1 ⟨rfl, rfl⟩
  go_wp2_with fail
  go_ret
  exact ⟨rfl, rfl⟩
set_option maxHeartbeats 800000 in
theorem ceils_core (n A M c : Int) (c1 : Tells 16 #[.int .i64 n, .int .i64 A, .int .i64 M] (.int .i64 c)) (c2 : Tells 17 #[.int .i64 n, .int .i64 A, .int .i64 M] (.int .i64 c))
    (h0 : 1 ≤ c) (h1 : c ≤ 4611686018427387904) (h2 : A ≤ c) (h3 : c ≤ M) (h4 : bits .and .i64 c (c - 1) = 0) (h5 : c = A ∨ c / 2 < n) (h6 : n ≤ c ∨ c = M) (w : World) :
    Calls Try.prog 4 #[.int .i64 n, .int .i64 A, .int .i64 M] w fun e w' => e = .returned (.bool true) ∧ w = w' := by
  have e0 : (c == 0) = false := by simp only [beq_eq_false_iff_ne, ne_eq]; omega
  have h5' : (c == A) = true ∨ (c == A) = false ∧ c / 2 < n := by
    by_cases e : c = A
    · exact .inl (by rw [e]; simp)
    · exact .inr ⟨by simpa using e, h5.resolve_left e⟩
  have h6' : decide (n ≤ c) = true ∨ decide (n ≤ c) = false ∧ (c == M) = true := by
    by_cases e : n ≤ c
    · exact .inl (decide_eq_true e)
    · exact .inr ⟨decide_eq_false e, by rw [h6.resolve_left e]; simp⟩
  clear h5 h6
  rcases h5' with e5 | ⟨e5, h5⟩ <;> rcases h6' with e6 | ⟨e6, h6⟩
  all_goals
    go_enter Try.func4, Try.ntmps4
    go_wp2_with fail
    go_at_call 9
    refine (small_calls _).mono ?_
    rintro e w1 ⟨rfl, rfl⟩
    go_wp2_with fail
    go_at_call 16
    refine (c1 _).mono ?_
    rintro e w1 ⟨rfl, rfl⟩
    go_wp2_with fail
    go_at_call 17
    refine (c2 _).mono ?_
    rintro e w1 ⟨rfl, rfl⟩
    go_wp2_with fail
    all_goals
      go_ret
      exact ⟨rfl, rfl⟩
theorem ceils_walk (n A M : Int) (hA : A ≤ 9223372036854775807) (hM : M ≤ 9223372036854775807) (w : World) :
    Calls Try.prog 4 #[.int .i64 n, .int .i64 A, .int .i64 M] w fun e w' => e = .returned (.bool true) ∧ w = w' := by
  by_cases h : ¬ IsP A ∨ IsP A ∧ ¬ IsP M ∨ IsP A ∧ IsP M ∧ M < A
  · exact ceils_zero n A M (fun w => ceil_no n A M hA hM h w) (fun w => rceil_no n A M hA hM h w) w
  · have pA : IsP A := Classical.byContradiction fun k => h (.inl k)
    have pM : IsP M := Classical.byContradiction fun k => h (.inr (.inl ⟨pA, k⟩))
    have hle : A ≤ M := Int.not_lt.1 fun k => h (.inr (.inr ⟨pA, pM, k⟩))
    clear h
    obtain ⟨a, ha, rfl⟩ := pA
    obtain ⟨m, hm, rfl⟩ := pM
    have ham : a ≤ m := by
      rcases Nat.lt_or_ge m a with k | k
      · have k1 := P2_mono (show m + 1 ≤ a by omega)
        have k2 := P2_succ m
        have k3 := P2_bd62 hm
        omega
      · exact k
    obtain ⟨u1, u2⟩ := up_le n (m - a) a
    have u3 := up_least n (m - a) a
    have u4 := up_most n (m - a) a
    have d1 := fun w => ceil62_calls n _ _ a m rfl rfl ham hm w
    have d2 := fun w => rceil62_calls n _ _ a m rfl rfl ham hm w
    generalize up n a (m - a) = u at *
    have hu : u ≤ 62 := by omega
    refine ceils_core n _ _ (P2 u) d1 d2 (P2_bd62 hu).1 (P2_bd62 hu).2 (P2_mono u1) (P2_mono (by omega)) (and_pow62 hu) ?_ ?_ w
    · rcases u3 with e | e
      · exact .inl (by rw [e])
      · cases u with
        | zero => exact .inl (by rw [show a = 0 by omega])
        | succ v =>
          right
          rw [Nat.add_sub_cancel] at e
          have k := P2_succ v
          have k2 : P2 v < n := e
          omega
    · rcases u4 with e | e
      · exact .inl e
      · exact .inr (by rw [show u = m by omega])
end Go.Proofs.Ytpannfmbganifaa
