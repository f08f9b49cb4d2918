/- Contracts of the document's layer 9: quotas. -/
import Derived.Test.YtndmbajdafecoaaQuota2
namespace Go.Proofs.Ytndmbajdafecoaa
open Go.RowKit Go.Sep
theorem rclamp_calls (n l h : Int) : Tells 36 #[.int .i64 n, .int .i64 l, .int .i64 h] (.int .i64 (cl n l h)) := by
  intro w
  go_enter Try.func36, Try.ntmps36
  go_wp2
  all_goals
    go_ret
    exact ⟨ret_int (by unfold cl; omega), rfl⟩
theorem rends_calls (c : Int) (h0 : 0 ≤ c) (h1 : c ≤ 4611686018427387903) : Tells 37 #[.int .i64 c] (.tuple #[.int .i64 (lo c), .int .i64 (hi c)]) := by
  intro w
  by_cases hc : c = 0
  · subst hc
    go_enter Try.func37, Try.ntmps37
    go_wp2
    go_ret2
    exact ⟨rfl, rfl⟩
  · have hne : (c == 0) = false := by simpa using hc
    have e1 : lo c = 1 := by unfold lo; rw [if_neg hc]
    have e2 : hi c = c - c / 5 := by unfold hi; rw [if_neg hc]
    rw [e1, e2]
    clear e1 e2 hc
    go_enter Try.func37, Try.ntmps37
    go_wp2
    go_ret2
    exact ⟨rfl, rfl⟩
theorem rwith_calls (c w : Int) (h0 : 0 ≤ w) (h1 : w ≤ c) (h2 : c ≤ 4611686018427387903) : TellsB 38 #[.int .i64 c, .int .i64 w] (.agg (quotaC c w (pr c w))) := by
  intro w0
  have hO := (Owned.nil w0).alloc (.cells #[.int .i64 0, .int .i64 0, .int .i64 0] 34)
  have HO := Lib.hid hO
  clear hO
  go_enter Try.func38, Try.ntmps38
  go_wp2_with (refine store_whole rfl _ _ _ rfl w0.heap.size rfl HO.out (quotaC _ _ _) rfl rfl info_quota (quota_one _ _ _) ?_; intro w2 hO2; have HO2 := Lib.hid hO2; clear hO2)
  exact bodyPost_ret (results_cell_row rfl _ _ w0.heap.size _ (quotaC c w (pr c w)) _ _ rfl HO2.out.head und_quota rfl info_quota) rfl ⟨rfl, HO2.out.below⟩
theorem rof_calls (a : Int) : TellsB 30 #[.int .i64 a] (ofQ a) := by
  intro w0
  have hO := (Owned.nil w0).alloc (.cells #[.int .i64 0, .int .i64 0, .int .i64 0] 34)
  have HO := Lib.hid hO
  clear hO
  have hc := ofC_in a
  have hw := ofW_in a
  have hl := lohi hc.1
  have c1 : Tells 36 #[.int .i64 a, .int .i64 0, .int .i64 4611686018427387903] (.int .i64 (ofC a)) := rclamp_calls a 0 4611686018427387903
  have c2 := rends_calls (ofC a) hc.1 hc.2
  have c3 : Tells 36 #[.int .i64 (ofC a / 100), .int .i64 (lo (ofC a)), .int .i64 (hi (ofC a))] (.int .i64 (ofW a)) := rclamp_calls _ _ _
  have c4 := rwith_calls (ofC a) (ofW a) (by omega) (by omega) hc.2
  unfold ofQ
  generalize pr (ofC a) (ofW a) = p at *
  generalize ofW a = w at *
  generalize ofC a = c at *
  generalize lo c = l at *
  generalize hi c = h at *
  obtain ⟨hc1, hc2⟩ := hc
  go_enter Try.func30, Try.ntmps30
  go_wp2_with fail
  go_at_call 36
  refine (c1 _).mono ?_
  rintro e w1 ⟨rfl, rfl⟩
  go_wp2_with fail
  go_at_call 37
  refine (c2 _).mono ?_
  rintro e w1 ⟨rfl, rfl⟩
  go_wp2_with fail
  go_at_call 36
  refine (c3 _).mono ?_
  rintro e w1 ⟨rfl, rfl⟩
  go_wp2_with fail
  go_at_call 38
  refine (c4 _).mono ?_
  rintro e w1 ⟨rfl, hb1⟩
  have HO1 := Lib.hid (HO.out.under hb1)
  go_wp2_with (refine store_whole rfl _ _ _ rfl w0.heap.size rfl HO1.out (quotaC _ _ _) rfl rfl info_quota (quota_one _ _ _) ?_; intro w2 hO2; have HO2 := Lib.hid hO2; clear hO2)
  exact bodyPost_ret (results_cell_row rfl _ _ w0.heap.size _ (quotaC c w p) _ _ rfl HO2.out.head und_quota rfl info_quota) rfl ⟨rfl, HO2.out.below⟩
end Go.Proofs.Ytndmbajdafecoaa
