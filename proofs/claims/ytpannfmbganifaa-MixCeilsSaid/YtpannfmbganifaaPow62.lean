/- Powers of two, all of them that an int holds: mix.power, mix.Ceil and the document's. -/
import Derived.Test.YtpannfmbganifaaCeil
import Derived.Test.YtpannfmbganifaaPowPure
namespace Go.Proofs.Ytpannfmbganifaa
open Go.RowKit
theorem P2_bd62 {j : Nat} (h : j ≤ 62) : 1 ≤ P2 j ∧ P2 j ≤ 4611686018427387904 := by
  have h1 : 1 ≤ 2 ^ j := Nat.one_le_two_pow
  have h2 : 2 ^ j ≤ 2 ^ 62 := Nat.pow_le_pow_right (by omega) h
  rw [P2_nat]
  omega
theorem and_i64 {a b : Nat} (ha : a < 9223372036854775808) (hb : b < 9223372036854775808) : bits .and .i64 (a : Int) (b : Int) = ((a &&& b : Nat) : Int) := by
  have e : bits .and .i64 (a : Int) (b : Int) = IntKind.i64.wrap ((BitVec.ofInt 64 (a : Int) &&& BitVec.ofInt 64 (b : Int)).toNat : Int) := rfl
  have h : a &&& b ≤ b := Nat.and_le_right
  rw [e, BitVec.toNat_and, BitVec.ofInt_natCast, BitVec.ofInt_natCast, BitVec.toNat_ofNat, BitVec.toNat_ofNat, Nat.mod_eq_of_lt (a := a) (by omega), Nat.mod_eq_of_lt (a := b) (by omega), IntKind.wrap_i64]
  omega
theorem and_pow62 {j : Nat} (h : j ≤ 62) : bits .and .i64 (P2 j) (P2 j - 1) = 0 := by
  have h1 : 1 ≤ 2 ^ j := Nat.one_le_two_pow
  have h2 : 2 ^ j ≤ 2 ^ 62 := Nat.pow_le_pow_right (by omega) h
  rw [P2_nat, show ((2 ^ j : Nat) : Int) - 1 = ((2 ^ j - 1 : Nat) : Int) by omega, and_i64 (by omega) (by omega), (PowPure.and_pred (2 ^ j) (by omega)).2 ⟨j, rfl⟩]
  rfl
/-- is a number a power of two? -/
def IsP (n : Int) : Prop := ∃ j, j ≤ 62 ∧ n = P2 j
theorem and_no {n : Int} (h0 : 0 < n) (h1 : n ≤ 9223372036854775807) (hn : ¬ IsP n) : (bits .and .i64 n (n - 1) == 0) = false := by
  obtain ⟨m, rfl⟩ : ∃ m : Nat, n = m := ⟨n.toNat, by omega⟩
  rw [show (m : Int) - 1 = ((m - 1 : Nat) : Int) by omega, and_i64 (by omega) (by omega)]
  have hne : m &&& (m - 1) ≠ 0 := by
    intro e
    obtain ⟨k, hk⟩ := (PowPure.and_pred m (by omega)).1 e
    refine hn ⟨k, ?_, by rw [P2_nat, hk]⟩
    rcases Nat.lt_or_ge k 63 with h | h
    · omega
    · have := Nat.pow_le_pow_right (n := 2) (by omega) h
      omega
  simp only [beq_eq_false_iff_ne, ne_eq]
  omega
theorem isP_half {n : Int} (h1 : n ≤ 9223372036854775807) (h2 : n % 2 = 0) (hn : ¬ IsP n) : ¬ IsP (n / 2) := by
  rintro ⟨j, hj, e⟩
  have e2 : n = P2 (j + 1) := by rw [P2_succ]; omega
  refine hn ⟨j + 1, ?_, e2⟩
  rcases Nat.lt_or_ge j 62 with h | h
  · omega
  · obtain rfl : j = 62 := by omega
    have : P2 (62 + 1) = 9223372036854775808 := rfl
    omega
set_option maxHeartbeats 400000 in
theorem pow62_calls (j : Nat) (hj : j ≤ 62) (w : World) : Calls Try.prog 20 #[.int .i64 (P2 j)] w fun e w' => e = .returned (.bool true) ∧ w = w' := by
  have hp := P2_bd62 hj
  have ha : bits .and .i64 (P2 j) (P2 j - 1) = 0 := and_pow62 hj
  have hgt : decide ((0 : Int) < P2 j) = true := decide_eq_true (by omega)
  generalize P2 j = P at *
  have ha' : (bits .and .i64 P (P - 1) == 0) = true := by rw [ha]; rfl
  clear ha
  obtain ⟨hp1, hp2⟩ := hp
  go_enter Try.func20, Try.ntmps20
  go_wp2
  go_ret
  exact ⟨rfl, rfl⟩

set_option maxHeartbeats 400000 in
theorem ceil62_calls (n A M : Int) (a m : Nat) (hA : A = P2 a) (hM : M = P2 m) (ham : a ≤ m) (hm : m ≤ 62) (w : World) :
    Calls Try.prog 16 #[.int .i64 n, .int .i64 A, .int .i64 M] w fun e w' => e = .returned (.int .i64 (P2 (up n a (m - a)))) ∧ w = w' := by
  subst hA
  subst hM
  have ca := fun w => pow62_calls a (by omega) w
  have cm := fun w => pow62_calls m (by omega) w
  have hle : P2 a ≤ P2 m := P2_mono ham
  have hA := P2_bd62 (show a ≤ 62 by omega)
  have hM := P2_bd62 hm
  obtain ⟨hA1, hA2⟩ := hA
  obtain ⟨hM1, hM2⟩ := hM
  go_enter Try.func16, Try.ntmps16
  go_wp2_with (first | (go_at_call 20; (with_reducible refine (ca _).mono ?_); rintro e w' ⟨rfl, rfl⟩) | (go_at_call 20; (with_reducible refine (cm _).mono ?_); rintro e w' ⟨rfl, rfl⟩))
  clear ca cm
  go_loop [7] (fun x => ∃ i : Nat, a ≤ i ∧ i ≤ m ∧ x = .int .i64 (P2 i) ∧ Hid (up n i (m - i) = up n a (m - a))) (fun x => (P2 m - intOf x).toNat)
  case atStart => exact ⟨a, Nat.le_refl _, ham, rfl, rfl⟩
  case round =>
    obtain ⟨i, hi1, hi2, rfl, hu⟩ := hrel
    have hb := P2_bd62 (show i ≤ 62 by omega)
    obtain ⟨hb1, hb2⟩ := hb
    by_cases h1 : P2 i < n
    · by_cases h2 : P2 i < P2 m
      · have hlt := P2_lt h2
        have hs := Lib.hid (P2_succ i)
        go_wp2
        go_round
        case rel => exact ⟨i + 1, by omega, by omega, by rw [hs.out], by rw [Hid, ← up_step h1 hlt]; exact hu⟩
        case measure => simp [intOf]; omega
      · have him : i = m := by
          rcases Nat.lt_or_ge i m with h | h
          · have := P2_mono (show i + 1 ≤ m by omega)
            have := P2_succ i
            omega
          · omega
        have hu' := Lib.hid him
        clear him
        go_wp2
        go_ret
        have hr : i = up n a (m - a) := by
          have h3 := hu.out
          rw [hu'.out, Nat.sub_self, up] at h3
          rw [hu'.out]
          exact h3
        exact ⟨by rw [← hr]; rfl, rfl⟩
    · go_wp2
      go_ret
      have hr : i = up n a (m - a) := by
        have h3 := hu.out
        rw [up_stay (by omega)] at h3
        exact h3
      exact ⟨by rw [← hr]; rfl, rfl⟩
/-- what pantryref01.power tells of a power of two -/
theorem rpow62_calls (j : Nat) (hj : j ≤ 62) (w : World) : Calls Try.prog 21 #[.int .i64 (P2 j)] w fun e w' => e = .returned (.bool true) ∧ w = w' := by
  go_enter Try.func21, Try.ntmps21
  go_wp2
  go_loop [0] (fun x => ∃ i : Nat, i ≤ j ∧ x = .int .i64 (P2 i)) (fun x => (intOf x).toNat)
  case atStart => exact ⟨j, Nat.le_refl _, rfl⟩
  case round =>
    obtain ⟨i, hi, rfl⟩ := hrel
    have hb := P2_bd62 (show i ≤ 62 by omega)
    obtain ⟨hb1, hb2⟩ := hb
    cases i with
    | zero =>
      have h0 : P2 0 = 1 := rfl
      rw [h0]
      go_wp2
      go_ret
      exact ⟨rfl, rfl⟩
    | succ i =>
      have hs := P2_succ i
      have hb := P2_bd62 (show i ≤ 62 by omega)
      obtain ⟨hc1, hc2⟩ := hb
      have hdiv : P2 (i + 1) / 2 = P2 i := by omega
      have hmod : (P2 (i + 1) % 2 == 0) = true := by rw [beq_iff_eq]; omega
      have hgt : 1 < P2 (i + 1) := by omega
      have HD := Lib.hid hdiv
      clear hdiv hs
      go_wp2
      go_round
      case rel => exact ⟨i, by omega, by rw [HD.out]⟩
      case measure => simp [intOf]; have := HD.out; omega

set_option maxHeartbeats 400000 in
theorem rceil62_calls (n A M : Int) (a m : Nat) (hA : A = P2 a) (hM : M = P2 m) (ham : a ≤ m) (hm : m ≤ 62) (w : World) :
    Calls Try.prog 17 #[.int .i64 n, .int .i64 A, .int .i64 M] w fun e w' => e = .returned (.int .i64 (P2 (up n a (m - a)))) ∧ w = w' := by
  subst hA
  subst hM
  have ca := fun w => rpow62_calls a (by omega) w
  have cm := fun w => rpow62_calls m (by omega) w
  have hle : P2 a ≤ P2 m := P2_mono ham
  have hA := P2_bd62 (show a ≤ 62 by omega)
  have hM := P2_bd62 hm
  obtain ⟨hA1, hA2⟩ := hA
  obtain ⟨hM1, hM2⟩ := hM
  go_enter Try.func17, Try.ntmps17
  go_wp2_with (first | (go_at_call 21; (with_reducible refine (ca _).mono ?_); rintro e w' ⟨rfl, rfl⟩) | (go_at_call 21; (with_reducible refine (cm _).mono ?_); rintro e w' ⟨rfl, rfl⟩))
  clear ca cm
  go_loop [9] (fun x => ∃ i : Nat, a ≤ i ∧ i ≤ m ∧ x = .int .i64 (P2 i) ∧ Hid (up n i (m - i) = up n a (m - a))) (fun x => (P2 m - intOf x).toNat)
  case atStart => exact ⟨a, Nat.le_refl _, ham, rfl, rfl⟩
  case round =>
    obtain ⟨i, hi1, hi2, rfl, hu⟩ := hrel
    have hb := P2_bd62 (show i ≤ 62 by omega)
    obtain ⟨hb1, hb2⟩ := hb
    by_cases h1 : P2 i < n
    · by_cases h2 : P2 i < P2 m
      · have hlt := P2_lt h2
        have hs := Lib.hid (show P2 (i + 1) = 2 * P2 i by rw [P2_succ]; omega)
        go_wp2
        go_round
        case rel => exact ⟨i + 1, by omega, by omega, by rw [hs.out], by rw [Hid, ← up_step h1 hlt]; exact hu⟩
        case measure => simp [intOf]; omega
      · have him : i = m := by
          rcases Nat.lt_or_ge i m with h | h
          · have := P2_mono (show i + 1 ≤ m by omega)
            have := P2_succ i
            omega
          · omega
        have hu' := Lib.hid him
        clear him
        go_wp2
        go_ret
        have hr : i = up n a (m - a) := by
          have h3 := hu.out
          rw [hu'.out, Nat.sub_self, up] at h3
          rw [hu'.out]
          exact h3
        exact ⟨by rw [← hr]; rfl, rfl⟩
    · go_wp2
      go_ret
      have hr : i = up n a (m - a) := by
        have h3 := hu.out
        rw [up_stay (by omega)] at h3
        exact h3
      exact ⟨by rw [← hr]; rfl, rfl⟩


set_option maxHeartbeats 400000 in
theorem pow_no (n : Int) (h1 : n ≤ 9223372036854775807) (hn : ¬ IsP n) (w : World) : Calls Try.prog 20 #[.int .i64 n] w fun e w' => e = .returned (.bool false) ∧ w = w' := by
  by_cases h0 : 0 < n
  · have ha := and_no h0 h1 hn
    clear hn
    go_enter Try.func20, Try.ntmps20
    go_wp2
    go_ret
    exact ⟨rfl, rfl⟩
  · clear hn
    go_enter Try.func20, Try.ntmps20
    go_wp2
    go_ret
    exact ⟨rfl, rfl⟩
theorem P2_zero : P2 0 = 1 := rfl
set_option maxHeartbeats 400000 in
theorem rpow_no (n : Int) (h1 : n ≤ 9223372036854775807) (hn : ¬ IsP n) (w : World) : Calls Try.prog 21 #[.int .i64 n] w fun e w' => e = .returned (.bool false) ∧ w = w' := by
  go_enter Try.func21, Try.ntmps21
  go_wp2
  go_loop [0] (fun x => ∃ m : Int, x = .int .i64 m ∧ m ≤ 9223372036854775807 ∧ Hid (¬ IsP m)) (fun x => (intOf x).toNat)
  case atStart => exact ⟨n, rfl, h1, hn⟩
  case round =>
    obtain ⟨m, rfl, hm, hp⟩ := hrel
    have hm1 : (m == 1) = false := by
      simp only [beq_eq_false_iff_ne, ne_eq]
      rintro rfl
      exact hp.out ⟨0, by omega, rfl⟩
    by_cases hgt : 1 < m
    · by_cases hev : m % 2 = 0
      · have hev' : (m % 2 == 0) = true := by rw [hev]; rfl
        have hh := Lib.hid (isP_half hm hev hp.out)
        clear hev hp
        go_wp2
        go_round
        case rel => exact ⟨m / 2, rfl, by omega, hh.out⟩
        case measure => simp [intOf]; omega
      · have hev' : (m % 2 == 0) = false := by simpa using hev
        clear hev hp
        go_wp2
        go_ret
        exact ⟨rfl, rfl⟩
    · clear hp
      go_wp2
      go_ret
      exact ⟨rfl, rfl⟩
end Go.Proofs.Ytpannfmbganifaa
