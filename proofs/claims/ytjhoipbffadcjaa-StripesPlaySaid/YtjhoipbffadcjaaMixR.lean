/- Contracts of the document's layer 1: words, turns, places, the powers of two. -/
import Derived.Test.YtjhoipbffadcjaaMixW
import Derived.Test.YtjhoipbffadcjaaCeil
namespace Go.Proofs.Ytjhoipbffadcjaa
open Go.RowKit MixPure
set_option maxHeartbeats 400000 in
theorem rmix_calls (seed key : Int) (w : World) : Calls Try.prog 38 #[.int .i64 seed, .int .i64 key] w fun e w' => e = .returned (.int .u64 (mixN (wd key) (wd seed))) ∧ w = w' := by
  have hm : mixI (IntKind.u64.wrap key) (IntKind.u64.wrap seed) = (mixN (wd key) (wd seed) : Int) := by rw [wrap_wd, wrap_wd, mixI_nat (wd_lt key)]
  go_enter Try.func38, Try.ntmps38
  go_wp2
  go_ret
  exact ⟨by rw [← hm]; rfl, rfl⟩

/-- one step of the document's turn -/
theorem r1_int {h : Nat} (hh : h < 18446744073709551616) : IntKind.u64.wrap (IntKind.u64.wrap ((h : Int) * 2) + (h : Int) / 9223372036854775808) = (r1 h : Int) := by
  rw [IntKind.wrap_u64, IntKind.wrap_u64]
  unfold r1
  omega
set_option maxHeartbeats 400000 in
theorem rturn_calls (x : Nat) (hx : x < 18446744073709551616) (k : Int) (w : World) : Calls Try.prog 42 #[.int .u64 x, .int .i64 k] w fun e w' => e = .returned (.int .u64 (rt (k % 64).toNat x)) ∧ w = w' := by
  have hd : k.tmod 64 = k - 64 * k.tdiv 64 := Int.tmod_def k 64
  have hb1 := Int.tmod_lt_of_pos k (show (0 : Int) < 64 by omega)
  have hb2 := Int.tmod_lt_of_pos (-k) (show (0 : Int) < 64 by omega)
  rw [Int.neg_tmod] at hb2
  obtain ⟨n, hn⟩ : ∃ n : Nat, (k % 64).toNat = n := ⟨_, rfl⟩
  have hn2 : n < 64 := by omega
  rw [hn]
  have hs : ∀ i, IntKind.u64.wrap (IntKind.u64.wrap ((rt i x : Int) * 2) + (rt i x : Int) / 9223372036854775808) = (rt (i + 1) x : Int) := fun i => r1_int (rt_lt hx i)
  have HS := Lib.hid hs
  clear hs
  have HD := Lib.hid hd
  have HN := Lib.hid hn
  clear hd hn
  by_cases hk : k.tmod 64 < 0
  · have e1 : k.tmod 64 + 64 = (n : Int) := by have := HD.out; have := HN.out; omega
    go_enter Try.func42, Try.ntmps42
    go_wp2
    go_loop [0, 6] (fun x0 x6 => ∃ i : Nat, i ≤ n ∧ x6 = .int .i64 i ∧ x0 = .int .u64 (rt i x)) (fun _ x6 => n - (intOf x6).toNat)
    case atStart => exact ⟨0, by omega, rfl, rfl⟩
    case round =>
      obtain ⟨i, hi, rfl, rfl⟩ := hrel
      by_cases hlt : i < n
      · go_wp2
        go_round
        case rel => exact ⟨i + 1, by omega, by go_num, by rw [← HS.out]⟩
        case measure => simp [intOf]; omega
      · obtain rfl : n = i := by omega
        go_wp2
        go_ret
        exact ⟨rfl, rfl⟩
  · have e1 : k.tmod 64 = (n : Int) := by have := HD.out; have := HN.out; omega
    go_enter Try.func42, Try.ntmps42
    go_wp2
    go_loop [0, 6] (fun x0 x6 => ∃ i : Nat, i ≤ n ∧ x6 = .int .i64 i ∧ x0 = .int .u64 (rt i x)) (fun _ x6 => n - (intOf x6).toNat)
    case atStart => exact ⟨0, by omega, rfl, rfl⟩
    case round =>
      obtain ⟨i, hi, rfl, rfl⟩ := hrel
      by_cases hlt : i < n
      · go_wp2
        go_round
        case rel => exact ⟨i + 1, by omega, by go_num, by rw [← HS.out]⟩
        case measure => simp [intOf]; omega
      · obtain rfl : n = i := by omega
        go_wp2
        go_ret
        exact ⟨rfl, rfl⟩
set_option maxHeartbeats 400000 in
theorem rindex_calls (h : Nat) (hh : h < 18446744073709551616) (row size : Int) (hs2 : size ≤ 9223372036854775807) (w : World) :
    Calls Try.prog 37 #[.int .u64 h, .int .i64 row, .int .i64 size] w fun e w' => e = .returned (.int .i64 (idx h row size)) ∧ w = w' := by
  unfold idx
  by_cases hs : size < 1
  · rw [if_pos hs]
    go_enter Try.func37, Try.ntmps37
    go_wp2
    go_ret
    exact ⟨rfl, rfl⟩
  · rw [if_neg hs]
    have ht := fun w => rturn_calls h hh (wrap64 (16 * row)) w
    rw [turn_wrap] at ht
    generalize rt ((16 * row) % 64).toNat h = t at *
    have hw := wrap_mod t (show 1 ≤ size by omega) hs2
    have HW := Lib.hid hw
    clear hw
    go_enter Try.func37, Try.ntmps37
    go_wp2_with fail
    go_at_call 42
    refine (ht _).mono ?_
    rintro e w1 ⟨rfl, rfl⟩
    go_wp2_with fail
    go_ret
    exact ⟨by rw [← HW.out]; rfl, rfl⟩
/-- what pantryref01.power tells of a power of two -/
theorem refpower_calls (j : Nat) (hj : j ≤ 61) (w : World) : Calls Try.prog 41 #[.int .i64 (P2 j)] w fun e w' => e = .returned (.bool true) ∧ w = w' := by
  go_enter Try.func41, Try.ntmps41
  go_wp2
  go_loop [0] (fun x => ∃ i : Nat, i ≤ j ∧ x = .int .i64 (P2 i)) (fun x => (intOf x).toNat)
  case atStart => exact ⟨j, Nat.le_refl _, rfl⟩
  case round =>
    obtain ⟨i, hi, rfl⟩ := hrel
    have hb := P2_bd (show i ≤ 61 by omega)
    obtain ⟨hb1, hb2⟩ := hb
    cases i with
    | zero =>
      have h0 : P2 0 = 1 := rfl
      rw [h0]
      go_wp2
      go_ret
      exact ⟨rfl, rfl⟩
    | succ i =>
      have hs := P2_succ i
      have hb := P2_bd (show i ≤ 61 by omega)
      obtain ⟨hc1, hc2⟩ := hb
      have hdiv : P2 (i + 1) / 2 = P2 i := by omega
      have hmod : (P2 (i + 1) % 2 == 0) = true := by rw [beq_iff_eq]; omega
      have hgt : 1 < P2 (i + 1) := by omega
      have HD := Lib.hid hdiv
      clear hdiv hs
      go_wp2
      go_round
      case rel => exact ⟨i, by omega, by rw [HD.out]⟩
      case measure => simp [intOf]; have := HD.out; omega

set_option maxHeartbeats 400000 in
theorem refceil_calls (n A M : Int) (a m : Nat) (hA : A = P2 a) (hM : M = P2 m) (ham : a ≤ m) (hm : m ≤ 61) (w : World) :
    Calls Try.prog 32 #[.int .i64 n, .int .i64 A, .int .i64 M] w fun e w' => e = .returned (.int .i64 (P2 (up n a (m - a)))) ∧ w = w' := by
  subst hA
  subst hM
  have ca := fun w => refpower_calls a (by omega) w
  have cm := fun w => refpower_calls m (by omega) w
  have hle : P2 a ≤ P2 m := P2_mono ham
  have hA := P2_bd (show a ≤ 61 by omega)
  have hM := P2_bd hm
  obtain ⟨hA1, hA2⟩ := hA
  obtain ⟨hM1, hM2⟩ := hM
  go_enter Try.func32, Try.ntmps32
  go_wp2_with (first | (go_at_call 41; (with_reducible refine (ca _).mono ?_); rintro e w' ⟨rfl, rfl⟩) | (go_at_call 41; (with_reducible refine (cm _).mono ?_); rintro e w' ⟨rfl, rfl⟩))
  clear ca cm
  go_loop [9] (fun x => ∃ i : Nat, a ≤ i ∧ i ≤ m ∧ x = .int .i64 (P2 i) ∧ Hid (up n i (m - i) = up n a (m - a))) (fun x => (P2 m - intOf x).toNat)
  case atStart => exact ⟨a, Nat.le_refl _, ham, rfl, rfl⟩
  case round =>
    obtain ⟨i, hi1, hi2, rfl, hu⟩ := hrel
    have hb := P2_bd (show i ≤ 61 by omega)
    obtain ⟨hb1, hb2⟩ := hb
    by_cases h1 : P2 i < n
    · by_cases h2 : P2 i < P2 m
      · have hlt := P2_lt h2
        have hs := Lib.hid (show P2 (i + 1) = 2 * P2 i by rw [P2_succ]; omega)
        go_wp2
        go_round
        case rel => exact ⟨i + 1, by omega, by omega, by rw [hs.out], by rw [Hid, ← up_step h1 hlt]; exact hu⟩
        case measure => simp [intOf]; omega
      · have him : i = m := by
          rcases Nat.lt_or_ge i m with h | h
          · have := P2_mono (show i + 1 ≤ m by omega)
            have := P2_succ i
            omega
          · omega
        have hu' := Lib.hid him
        clear him
        go_wp2
        go_ret
        have hr : i = up n a (m - a) := by
          have h3 := hu.out
          rw [hu'.out, Nat.sub_self, up] at h3
          rw [hu'.out]
          exact h3
        exact ⟨by rw [← hr]; rfl, rfl⟩
    · go_wp2
      go_ret
      have hr : i = up n a (m - a) := by
        have h3 := hu.out
        rw [up_stay (by omega)] at h3
        exact h3
      exact ⟨by rw [← hr]; rfl, rfl⟩

end Go.Proofs.Ytjhoipbffadcjaa
