/- What mix.Ceil and mix.power tell: the least power of two that is as great, between two powers of two. -/
import Derived.Test.YtjhoipbffadcjaaProg
import Derived.WalkKit
import Derived.Lib.Hide
import Derived.Laws.BitsAllLaws
import Derived.Deep.LoopGhost
namespace Go.Proofs.Ytjhoipbffadcjaa
open Go.RowKit

/-- the least power of two that is n, from 2^i on, 2^(i+d) at most: its exponent -/
def up (n : Int) (i : Nat) : Nat → Nat
  | 0 => i
  | d + 1 => if (2 ^ i : Int) < n then up n (i + 1) d else i
theorem up_le (n : Int) : ∀ d i, i ≤ up n i d ∧ up n i d ≤ i + d
  | 0, i => by simp [up]
  | d + 1, i => by
    unfold up
    split
    · have := up_le n d (i + 1); omega
    · omega
theorem up_least (n : Int) : ∀ d i, up n i d = i ∨ (2 ^ (up n i d - 1) : Int) < n
  | 0, i => .inl rfl
  | d + 1, i => by
    unfold up
    split
    · rcases up_least n d (i + 1) with h | h
      · rw [h]; exact .inr (by simpa using ‹(2 ^ i : Int) < n›)
      · exact .inr h
    · exact .inl rfl
theorem up_most (n : Int) : ∀ d i, n ≤ (2 ^ (up n i d) : Int) ∨ up n i d = i + d
  | 0, i => .inr rfl
  | d + 1, i => by
    unfold up
    split
    · rcases up_most n d (i + 1) with h | h
      · exact .inl h
      · exact .inr (by omega)
    · exact .inl (by omega)
theorem pow_lt {i m : Nat} (hm : i ≤ m) (h : m ≤ 61) : (1 : Int) ≤ 2 ^ i ∧ (2 : Int) ^ i ≤ 2305843009213693952 := by
  have h1 : 1 ≤ 2 ^ i := Nat.one_le_two_pow
  have h2 : 2 ^ i ≤ 2 ^ 61 := Nat.pow_le_pow_right (by omega) (by omega)
  have h3 : ((2 ^ i : Nat) : Int) = (2 : Int) ^ i := by simp
  omega
theorem and_pow (j : Nat) (h : j ≤ 61) : bits .and .i64 ((2 : Int) ^ j) ((2 : Int) ^ j - 1) = 0 := by
  have h3 : (2 : Int) ^ j = ((2 ^ j : Nat) : Int) := by simp
  have h1 : 1 ≤ 2 ^ j := Nat.one_le_two_pow
  have h2 : 2 ^ j ≤ 2 ^ 61 := Nat.pow_le_pow_right (by omega) h
  have e : ((2 ^ j : Nat) : Int) - 1 = ((2 ^ j - 1 : Nat) : Int) := by omega
  rw [h3, e]
  show IntKind.i64.wrap ((BitVec.ofInt 64 ((2 ^ j : Nat) : Int) &&& BitVec.ofInt 64 ((2 ^ j - 1 : Nat) : Int)).toNat : Int) = _
  rw [BitVec.toNat_and, BitVec.ofInt_natCast, BitVec.ofInt_natCast, BitVec.toNat_ofNat, BitVec.toNat_ofNat, Nat.mod_eq_of_lt (a := 2 ^ j) (by omega), Nat.mod_eq_of_lt (a := 2 ^ j - 1) (by omega), Nat.and_two_pow_sub_one_eq_mod, Nat.mod_self]
  decide

/-- a power of two, kept from the walk -/
def P2 (j : Nat) : Int := 2 ^ j
theorem P2_bd {j : Nat} (h : j ≤ 61) : 1 ≤ P2 j ∧ P2 j ≤ 2305843009213693952 := pow_lt (Nat.le_refl j) h
theorem P2_succ (j : Nat) : P2 (j + 1) = P2 j * 2 := by unfold P2; rw [Int.pow_succ]
theorem P2_mono {a m : Nat} (h : a ≤ m) : P2 a ≤ P2 m := by
  have := Nat.pow_le_pow_right (n := 2) (by omega) h
  have h1 : ((2 ^ a : Nat) : Int) = (2 : Int) ^ a := by simp
  have h2 : ((2 ^ m : Nat) : Int) = (2 : Int) ^ m := by simp
  unfold P2
  omega
theorem P2_lt {a m : Nat} (h : P2 a < P2 m) : a < m := by
  rcases Nat.lt_or_ge a m with h1 | h1
  · exact h1
  · have := P2_mono h1; omega
theorem P2_nat (j : Nat) : P2 j = ((2 ^ j : Nat) : Int) := by unfold P2; simp

set_option maxHeartbeats 400000 in
theorem power_calls (j : Nat) (hj : j ≤ 61) (w : World) : Calls Try.prog 39 #[.int .i64 (P2 j)] w fun e w' => e = .returned (.bool true) ∧ w = w' := by
  have hp := P2_bd hj
  have ha : bits .and .i64 (P2 j) (P2 j - 1) = 0 := and_pow j hj
  have hgt : decide ((0 : Int) < P2 j) = true := decide_eq_true (by omega)
  generalize P2 j = P at *
  have ha' : (bits .and .i64 P (P - 1) == 0) = true := by rw [ha]; rfl
  clear ha
  obtain ⟨hp1, hp2⟩ := hp
  go_enter Try.func39, Try.ntmps39
  go_wp2
  go_ret
  exact ⟨rfl, rfl⟩

theorem up_step {n : Int} {i m : Nat} (h : P2 i < n) (him : i < m) : up n i (m - i) = up n (i + 1) (m - (i + 1)) := by
  obtain ⟨d, hd⟩ : ∃ d, m - i = d + 1 := ⟨m - i - 1, by omega⟩
  rw [hd, up, if_pos (show (2 ^ i : Int) < n from h), show m - (i + 1) = d by omega]
theorem up_stay {n : Int} {i m : Nat} (h : ¬ P2 i < n) : up n i (m - i) = i := by
  generalize m - i = d
  cases d with
  | zero => rfl
  | succ d => rw [up, if_neg (show ¬ (2 ^ i : Int) < n from h)]

set_option maxHeartbeats 400000 in
theorem ceil_calls (n A M : Int) (a m : Nat) (hA : A = P2 a) (hM : M = P2 m) (ham : a ≤ m) (hm : m ≤ 61) (w : World) :
    Calls Try.prog 25 #[.int .i64 n, .int .i64 A, .int .i64 M] w fun e w' => e = .returned (.int .i64 (P2 (up n a (m - a)))) ∧ w = w' := by
  subst hA
  subst hM
  have ca := fun w => power_calls a (by omega) w
  have cm := fun w => power_calls m (by omega) w
  have hle : P2 a ≤ P2 m := P2_mono ham
  have hA := P2_bd (show a ≤ 61 by omega)
  have hM := P2_bd hm
  obtain ⟨hA1, hA2⟩ := hA
  obtain ⟨hM1, hM2⟩ := hM
  go_enter Try.func25, Try.ntmps25
  go_wp2_with (first | (go_at_call 39; (with_reducible refine (ca _).mono ?_); rintro e w' ⟨rfl, rfl⟩) | (go_at_call 39; (with_reducible refine (cm _).mono ?_); rintro e w' ⟨rfl, rfl⟩))
  clear ca cm
  go_loop [7] (fun x => ∃ i : Nat, a ≤ i ∧ i ≤ m ∧ x = .int .i64 (P2 i) ∧ Hid (up n i (m - i) = up n a (m - a))) (fun x => (P2 m - intOf x).toNat)
  case atStart => exact ⟨a, Nat.le_refl _, ham, rfl, rfl⟩
  case round =>
    obtain ⟨i, hi1, hi2, rfl, hu⟩ := hrel
    have hb := P2_bd (show i ≤ 61 by omega)
    obtain ⟨hb1, hb2⟩ := hb
    by_cases h1 : P2 i < n
    · by_cases h2 : P2 i < P2 m
      · have hlt := P2_lt h2
        have hs := Lib.hid (P2_succ i)
        go_wp2
        go_round
        case rel => exact ⟨i + 1, by omega, by omega, by rw [hs.out], by rw [Hid, ← up_step h1 hlt]; exact hu⟩
        case measure => simp [intOf]; omega
      · have him : i = m := by
          rcases Nat.lt_or_ge i m with h | h
          · have := P2_mono (show i + 1 ≤ m by omega)
            have := P2_succ i
            omega
          · omega
        have hu' := Lib.hid him
        clear him
        go_wp2
        go_ret
        have hr : i = up n a (m - a) := by
          have h3 := hu.out
          rw [hu'.out, Nat.sub_self, up] at h3
          rw [hu'.out]
          exact h3
        exact ⟨by rw [← hr]; rfl, rfl⟩
    · go_wp2
      go_ret
      have hr : i = up n a (m - a) := by
        have h3 := hu.out
        rw [up_stay (by omega)] at h3
        exact h3
      exact ⟨by rw [← hr]; rfl, rfl⟩
end Go.Proofs.Ytjhoipbffadcjaa
