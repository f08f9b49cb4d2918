/- Contracts of the document's layer 2: counters in a word. -/
import Derived.Test.YtfjnimlmedmdhaaNibSum
namespace Go.Proofs.Ytfjnimlmedmdhaa
open Go.RowKit NibPure Go.Sep
theorem dg_step (x k : Nat) : x / 16 ^ k / 16 = x / 16 ^ (k + 1) := by rw [Nat.div_div_eq_div_mul, Nat.pow_succ]
theorem div_le (x k : Nat) (hx : x < 18446744073709551616) : x / 16 ^ k < 18446744073709551616 := Nat.lt_of_le_of_lt (Nat.div_le_self _ _) hx
set_option maxHeartbeats 400000 in
theorem ref_get_in (x : Nat) (hx : x < 18446744073709551616) (i : Nat) (hi : i < 16) : Tells 13 #[.int .u64 x, .int .i64 i] (.int .i64 (dg x i)) := by
  intro w
  have hd : decide (15 < (i : Int)) = false := decide_eq_false (by omega)
  go_enter Try.func13, Try.ntmps13
  go_wp2
  go_loop [0, 5] (fun x0 x5 => ∃ k : Nat, k ≤ i ∧ x5 = .int .i64 k ∧ x0 = .int .u64 ((x / 16 ^ k : Nat) : Int)) (fun _ x5 => i - (intOf x5).toNat)
  case atStart => exact ⟨0, by omega, rfl, by rw [Nat.pow_zero, Nat.div_one]⟩
  case round =>
    obtain ⟨k, hk, rfl, rfl⟩ := hrel
    have hl := div_le x k hx
    have HS := Lib.hid (dg_step x k)
    have HD : Hid (dg x k = x / 16 ^ k % 16) := Lib.hid rfl
    by_cases hlt : k < i
    · generalize x / 16 ^ k = y at *
      go_wp2_with fail
      go_round
      case rel => exact ⟨k + 1, by omega, by go_num, by rw [← HS.out]; go_num⟩
      case measure => simp [intOf]; omega
    · obtain rfl : k = i := by omega
      generalize x / 16 ^ k = y at *
      go_wp2_with fail
      go_ret
      exact ⟨by rw [HD.out]; go_num, rfl⟩
set_option maxHeartbeats 400000 in
theorem ref_get_out (x : Nat) (i : Int) (hi : i < 0 ∨ 0 ≤ i ∧ 16 ≤ i) : Tells 13 #[.int .u64 x, .int .i64 i] (.int .i64 0) := by
  intro w
  rcases hi with hi | ⟨h1, h2⟩
  · go_enter Try.func13, Try.ntmps13
    go_wp2
    go_ret
    exact ⟨rfl, rfl⟩
  · have hd : decide (15 < i) = true := decide_eq_true (by omega)
    go_enter Try.func13, Try.ntmps13
    go_wp2
    go_ret
    exact ⟨rfl, rfl⟩
/-- an array's word -/
def pk (d : Nat → Nat) : Nat → Nat
  | 0 => 0
  | m + 1 => pk d m * 16 + d (15 - m)
theorem pk_lt (d : Nat → Nat) (h : ∀ j, d j < 16) : ∀ m, pk d m < 16 ^ m
  | 0 => by rw [pk, Nat.pow_zero]; omega
  | m + 1 => by
    have h1 := pk_lt d h m
    have h2 := h (15 - m)
    rw [pk, Nat.pow_succ]
    omega
theorem pk_dg (d : Nat → Nat) (h : ∀ j, d j < 16) : ∀ m, m ≤ 16 → ∀ j, j < m → dg (pk d m) j = d (16 - m + j)
  | 0, _, j, hj => by omega
  | m + 1, hm, 0, _ => by
    have h2 := h (15 - m)
    rw [pk, dg, Nat.pow_zero, Nat.div_one, show 16 - (m + 1) + 0 = 15 - m by omega]
    omega
  | m + 1, hm, j + 1, hj => by
    have h2 := h (15 - m)
    have ih := pk_dg d h m (by omega) j (by omega)
    rw [pk, ← dg_next', show (pk d m * 16 + d (15 - m)) / 16 = pk d m by omega, ih, show 16 - (m + 1) + (j + 1) = 16 - m + j by omega]
where dg_next' {w k : Nat} : dg (w / 16) k = dg w (k + 1) := by
        unfold dg
        rw [Nat.div_div_eq_div_mul, Nat.mul_comm 16, ← Nat.pow_succ]
theorem pk_all (d : Nat → Nat) (h : ∀ j, d j < 16) (k : Nat) (hk : k < 16) : dg (pk d 16) k = d k := by
  have := pk_dg d h 16 (by omega) k hk
  rw [this]; congr 1; omega
theorem pk_lt16 (d : Nat → Nat) (h : ∀ j, d j < 16) : pk d 16 < 18446744073709551616 := pk_lt d h 16
set_option maxHeartbeats 1600000 in
set_option maxRecDepth 100000 in
theorem pack_calls (d : Nat → Nat) (h : ∀ j, d j < 16) : TellsB 25 #[.agg (arrC d)] (.int .u64 (pk d 16)) := by
  intro w
  have hget := arr_get d
  have hcell : ∀ k, k < 16 → ∀ t, (w.alloc (.cells #[Value.int .i64 (d 0), .int .i64 (d 1), .int .i64 (d 2), .int .i64 (d 3), .int .i64 (d 4), .int .i64 (d 5), .int .i64 (d 6), .int .i64 (d 7), .int .i64 (d 8), .int .i64 (d 9), .int .i64 (d 10), .int .i64 (d 11), .int .i64 (d 12), .int .i64 (d 13), .int .i64 (d 14), .int .i64 (d 15)] t)).cell? ⟨w.heap.size, k, none⟩ = some (.int .i64 (d k)) := fun k hk t => by
    rw [cell_of_row _ _ _ _ _ _ (heap_alloc_new w _)]; exact hget k hk
  have HC := Lib.hid hcell
  have HP := Lib.hid (pk_lt d h)
  clear hget hcell
  unfold arrC
  go_enter Try.func25, Try.ntmps25
  go_wp2
  go_loop [3, 4] (fun x3 x4 => ∃ m : Nat, m ≤ 16 ∧ x4 = .int .i64 (15 - (m : Int)) ∧ x3 = .int .u64 (pk d m)) (fun _ x4 => (1 + intOf x4).toNat)
  case atStart => exact ⟨0, by omega, rfl, rfl⟩
  case round =>
    obtain ⟨m, hm, rfl, rfl⟩ := hrel
    by_cases hlt : m < 16
    · have hc := HC.out (15 - m) (by omega)
      have hp := HP.out m
      have hp2 := HP.out (m + 1)
      have hmono : 16 ^ (m + 1) ≤ 16 ^ 16 := Nat.pow_le_pow_right (by omega) (by omega)
      have hd := h (15 - m)
      have hpk : pk d (m + 1) = pk d m * 16 + d (15 - m) := rfl
      have hb : pk d m * 16 + d (15 - m) < 18446744073709551616 := by rw [← hpk]; omega
      have HS := Lib.hid hpk
      clear hp hp2 hmono hpk h
      generalize hq : 15 - m = q at *
      have e : (15 : Int) - (m : Int) = (q : Int) := by omega
      have e2 : (15 : Int) - ((m + 1 : Nat) : Int) = (q : Int) - 1 := by omega
      rw [e]
      have HE := Lib.hid e2
      have hq16 : (q : Int) < 16 := by omega
      clear e e2 hq
      generalize pk d m = y at *
      generalize d q = z at *
      go_wp2_with fail
      go_round
      case rel => exact ⟨m + 1, by omega, by rw [HE.out], by rw [HS.out]; go_num⟩
      case measure => simp [intOf]; omega
    · obtain rfl : m = 16 := by omega
      clear h
      rw [show (15 : Int) - ((16 : Nat) : Int) = -1 from rfl]
      go_wp2_with fail
      go_ret
      exact ⟨rfl, (Below.refl _ _).alloc (Nat.le_refl _) _⟩
end Go.Proofs.Ytfjnimlmedmdhaa
