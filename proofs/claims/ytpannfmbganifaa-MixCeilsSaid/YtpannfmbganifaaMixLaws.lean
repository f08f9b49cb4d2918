/- The statements of layer 1 on words: the walks. -/
import Derived.Test.YtpannfmbganifaaMix2
namespace Go.Proofs.Ytpannfmbganifaa
open Go.RowKit MixPure
set_option maxHeartbeats 800000 in
theorem tells_walk (seed key by_ size : Int) (hs : size ≤ 9223372036854775807) (w : World) : Calls Try.prog 3 #[.int .i64 seed, .int .i64 key, .int .i64 by_, .int .i64 size] w fun e w' => e = .returned (.bool true) ∧ w = w' := by
  have c1 := fun w => mix_calls seed key w
  have c2 := fun w => rmix_calls seed key w
  have hl := mixN_lt (wd key) (wd seed)
  generalize mixN (wd key) (wd seed) = h at *
  have c3 := fun w => turn_calls h hl by_ w
  have c4 := fun w => rturn_calls h hl by_ w
  have c5 := fun w => index_calls h hl by_ size hs w
  have c6 := fun w => rindex_calls h hl by_ size hs w
  generalize rt (by_ % 64).toNat h = t at *
  generalize idx h by_ size = p at *
  go_enter Try.func3, Try.ntmps3
  go_wp2_with fail
  go_at_call 9
  refine (small_calls _).mono ?_
  rintro e w1 ⟨rfl, rfl⟩
  go_wp2_with fail
  go_at_call 10
  refine (c1 _).mono ?_
  rintro e w1 ⟨rfl, rfl⟩
  go_wp2_with fail
  go_at_call 11
  refine (c2 _).mono ?_
  rintro e w1 ⟨rfl, rfl⟩
  go_wp2_with fail
  go_at_call 12
  refine (c3 _).mono ?_
  rintro e w1 ⟨rfl, rfl⟩
  go_wp2_with fail
  go_at_call 13
  refine (c4 _).mono ?_
  rintro e w1 ⟨rfl, rfl⟩
  go_wp2_with fail
  go_at_call 14
  refine (c5 _).mono ?_
  rintro e w1 ⟨rfl, rfl⟩
  go_wp2_with fail
  go_at_call 15
  refine (c6 _).mono ?_
  rintro e w1 ⟨rfl, rfl⟩
  go_wp2_with fail
  go_ret
  exact ⟨rfl, rfl⟩
theorem mix_eq (a b : Int) (s : Nat) (ha1 : -9223372036854775808 ≤ a) (ha2 : a ≤ 9223372036854775807) (hb1 : -9223372036854775808 ≤ b) (hb2 : b ≤ 9223372036854775807) :
    ((((mixN (wd a) s : Nat) : Int) == ((mixN (wd b) s : Nat) : Int)) == (a == b)) = true := by
  by_cases h : a = b
  · subst h; simp
  · have h2 : ((mixN (wd a) s : Nat) : Int) ≠ ((mixN (wd b) s : Nat) : Int) := by
      intro e
      have e2 : mixN (wd a) s = mixN (wd b) s := by omega
      have e3 := congrArg (backN s) e2
      rw [back_mix (wd_lt a), back_mix (wd_lt b)] at e3
      apply h
      rw [← i64_wd ha1 ha2, ← i64_wd hb1 hb2, e3]
    have e1 : (a == b) = false := by simpa using h
    have e2 : (((mixN (wd a) s : Nat) : Int) == ((mixN (wd b) s : Nat) : Int)) = false := by simpa using h2
    rw [e1, e2]
    rfl
/-- a call that tells and changes nothing -/
def Tells (f : Nat) (args : Array Value) (v : Value) : Prop := ∀ w, Calls Try.prog f args w fun e w' => e = .returned v ∧ w = w'
set_option maxHeartbeats 800000 in
theorem apart_core (seed a b k : Int) (h x y : Nat) (c1 : Tells 10 #[.int .i64 seed, .int .i64 a] (.int .u64 x)) (c2 : Tells 10 #[.int .i64 seed, .int .i64 b] (.int .u64 y))
    (c3 : Tells 18 #[.int .i64 seed, .int .u64 x] (.int .i64 a)) (c4 : Tells 18 #[.int .i64 seed, .int .u64 h] (.int .i64 k)) (c5 : Tells 10 #[.int .i64 seed, .int .i64 k] (.int .u64 h))
    (he : (((x : Int) == (y : Int)) == (a == b)) = true) (w : World) :
    Calls Try.prog 5 #[.int .i64 seed, .int .i64 a, .int .i64 b, .int .u64 h] w fun e w' => e = .returned (.bool true) ∧ w = w' := by
  go_enter Try.func5, Try.ntmps5
  go_wp2_with fail
  go_at_call 9
  refine (small_calls _).mono ?_
  rintro e w1 ⟨rfl, rfl⟩
  go_wp2_with fail
  go_at_call 10
  refine (c1 _).mono ?_
  rintro e w1 ⟨rfl, rfl⟩
  go_wp2_with fail
  go_at_call 10
  refine (c2 _).mono ?_
  rintro e w1 ⟨rfl, rfl⟩
  go_wp2_with fail
  go_at_call 18
  refine (c3 _).mono ?_
  rintro e w1 ⟨rfl, rfl⟩
  go_wp2_with fail
  go_at_call 18
  refine (c4 _).mono ?_
  rintro e w1 ⟨rfl, rfl⟩
  go_wp2_with fail
  go_at_call 10
  refine (c5 _).mono ?_
  rintro e w1 ⟨rfl, rfl⟩
  go_wp2_with fail
  go_ret
  exact ⟨rfl, rfl⟩
theorem apart_walk (seed a b : Int) (h : Nat) (hh : h < 18446744073709551616) (ha1 : -9223372036854775808 ≤ a) (ha2 : a ≤ 9223372036854775807) (hb1 : -9223372036854775808 ≤ b) (hb2 : b ≤ 9223372036854775807) (w : World) :
    Calls Try.prog 5 #[.int .i64 seed, .int .i64 a, .int .i64 b, .int .u64 h] w fun e w' => e = .returned (.bool true) ∧ w = w' := by
  refine apart_core seed a b (wrap64 (backN (wd seed) h)) h (mixN (wd a) (wd seed)) (mixN (wd b) (wd seed)) (fun w => mix_calls seed a w) (fun w => mix_calls seed b w) (fun w => ?_) (fun w => back_calls seed h hh w) (fun w => ?_) (mix_eq a b (wd seed) ha1 ha2 hb1 hb2) w
  · have h1 := back_calls seed (mixN (wd a) (wd seed)) (mixN_lt _ _) w
    rw [back_mix (wd_lt a), i64_wd ha1 ha2] at h1
    exact h1
  · have h1 := mix_calls seed (wrap64 (backN (wd seed) h)) w
    rw [wd_i64 (backN_lt _ _), mix_back hh] at h1
    exact h1
end Go.Proofs.Ytpannfmbganifaa
