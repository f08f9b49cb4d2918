/- Contract of layer 9's Main: what is not the window's. -/
import Derived.Test.YtdkkhhlkgjnicaaQuota2
namespace Go.Proofs.Ytdkkhhlkgjnicaa
open Go.RowKit Go.Sep
def mainN (a b p : Int) : Int := if rightB a b p = true then a - b else 0
set_option maxHeartbeats 800000 in
theorem main_calls (a b p : Int) : TellsB 13 #[.agg (quotaC a b p)] (.int .i64 (mainN a b p)) := by
  intro w0
  have hc := right_calls a b p
  have hr : rightB a b p = true → (0 ≤ a ∧ a ≤ 4611686018427387903) ∧ 0 ≤ b ∧ b ≤ a := by
    intro h
    unfold rightB at h
    simp only [Bool.and_eq_true, beq_iff_eq] at h
    have h1 := ofC_in a
    have h2 := shW_in a b 0
    have h3 := lohi h1.1
    omega
  unfold mainN
  cases hq : rightB a b p with
  | false =>
    rw [if_neg (by simp)]
    rw [hq] at hc
    clear hr hq
    unfold quotaC at *
    go_enter Try.func13, Try.ntmps13
    go_wp2_with fail
    go_at_call 12
    refine (hc _).mono ?_
    rintro e w1 ⟨rfl, hb1⟩
    go_wp2_with fail
    go_ret
    exact ⟨rfl, ((((Owned.nil w0).alloc_ _).under hb1)).below⟩
  | true =>
    rw [if_pos rfl]
    rw [hq] at hc
    obtain ⟨⟨h1, h2⟩, h3, h4⟩ := hr hq
    clear hr hq
    have hO := ((Owned.nil w0).alloc (.cells (quotaC a b p) 23))
    unfold quotaC at *
    go_enter Try.func13, Try.ntmps13
    go_wp2_with fail
    go_at_call 12
    refine (hc _).mono ?_
    rintro e w1 ⟨rfl, hb1⟩
    have hO1 := hO.under hb1
    have g0 : w1.cell? ⟨w0.heap.size, 0, none⟩ = some (.int .i64 a) := Owned.cell hO1 0
    have g1 : w1.cell? ⟨w0.heap.size, 1, none⟩ = some (.int .i64 b) := Owned.cell hO1 1
    clear hO
    have HO := Lib.hid hO1
    clear hO1
    go_wp2_with fail
    go_ret
    exact ⟨rfl, HO.out.below⟩
end Go.Proofs.Ytdkkhhlkgjnicaa
