/- Contracts of layer 2's functions: sums. -/
import Derived.Test.YtfjnimlmedmdhaaNibAll
namespace Go.Proofs.Ytfjnimlmedmdhaa
open Go.RowKit NibPure Go.Sep
theorem sm_le (x : Nat) : ∀ k, sm x k ≤ 15 * k
  | 0 => Nat.le_refl _
  | k + 1 => by
    have := sm_le x k
    have := dg_lt x k
    rw [sm]; omega
theorem index_all (x : Nat) (w : World) : ∀ k : Nat, k < 16 → (Instr.index 28 (.agg (arrC (dg x))) (.int .i64 k)).run Try.prog w = .ok (.int .i64 (dg x k)) w
  | 0, _ => by kernel_rfl
  | 1, _ => by kernel_rfl
  | 2, _ => by kernel_rfl
  | 3, _ => by kernel_rfl
  | 4, _ => by kernel_rfl
  | 5, _ => by kernel_rfl
  | 6, _ => by kernel_rfl
  | 7, _ => by kernel_rfl
  | 8, _ => by kernel_rfl
  | 9, _ => by kernel_rfl
  | 10, _ => by kernel_rfl
  | 11, _ => by kernel_rfl
  | 12, _ => by kernel_rfl
  | 13, _ => by kernel_rfl
  | 14, _ => by kernel_rfl
  | 15, _ => by kernel_rfl
  | n + 16, h => absurd h (by omega)
set_option maxHeartbeats 1600000 in
set_option maxRecDepth 100000 in
theorem sum_calls (x : Nat) (hx : x < 18446744073709551616) (w0 : World) : Calls Try.prog 20 #[.int .u64 x] w0 fun e w' => e = .returned (.int .i64 (sm x 16)) ∧ Below w0.heap.size w0 w' := by
  have c1 := all_calls x hx w0
  go_enter Try.func20, Try.ntmps20
  go_wp2_with fail
  go_at_call 16
  refine (c1).mono ?_
  rintro e w1 ⟨rfl, hb⟩
  go_wp2_with fail
  go_loop [3, 8] (fun x3 x8 => ∃ k : Nat, k ≤ 16 ∧ x8 = .int .i64 k ∧ x3 = .int .i64 (sm x k)) (fun _ x8 => 16 - (intOf x8).toNat)
  case atStart => exact ⟨0, by omega, rfl, rfl⟩
  case round =>
    obtain ⟨k, hk, rfl, rfl⟩ := hrel
    by_cases hlt : k < 16
    · have hix := fun w => index_all x w k hlt
      have hd := dg_lt x k
      have hs : sm x (k + 1) = sm x k + dg x k := rfl
      have hb1 := sm_le x k
      have HS := Lib.hid hs
      clear hs
      go_wp2_with fail
      go_round
      case rel => exact ⟨k + 1, by omega, by go_num, by rw [HS.out]; go_num⟩
      case measure => simp [intOf]; omega
    · obtain rfl : k = 16 := by omega
      go_wp2_with fail
      go_ret
      exact ⟨rfl, hb⟩
end Go.Proofs.Ytfjnimlmedmdhaa
