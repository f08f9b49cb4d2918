/- Contracts of the document's layer 9: shifts. -/
import Derived.Test.YtndmbajdafecoaaQuotaRef
namespace Go.Proofs.Ytndmbajdafecoaa
open Go.RowKit Go.Sep
set_option maxHeartbeats 800000 in
theorem rshift_calls (a b p by_ : Int) : TellsB 31 #[.agg (quotaC a b p), .int .i64 by_] (shQ a b by_) := by
  intro w0
  have hO := ((Owned.nil w0).alloc (.cells (quotaC a b p) 34)).alloc (.cells #[.int .i64 0, .int .i64 0, .int .i64 0] 34)
  rw [show (w0.alloc (.cells (quotaC a b p) 34)).heap.size = w0.heap.size + 1 by simp] at hO
  have HO := Lib.hid hO
  clear hO
  have hc := ofC_in a
  have hl := lohi hc.1
  have hsw := shW_in a b by_
  have c1 : Tells 36 #[.int .i64 a, .int .i64 0, .int .i64 4611686018427387903] (.int .i64 (ofC a)) := rclamp_calls a 0 4611686018427387903
  have c2 := rends_calls (ofC a) hc.1 hc.2
  have c3 := rclamp_calls b (lo (ofC a)) (hi (ofC a))
  have h1 := cl_in (n := b) hl.2.1
  have he : shW a b by_ = cl b (lo (ofC a)) (hi (ofC a)) + cl by_ (lo (ofC a) - cl b (lo (ofC a)) (hi (ofC a))) (hi (ofC a) - cl b (lo (ofC a)) (hi (ofC a))) := rfl
  unfold shQ
  rw [he]
  clear he hsw
  generalize cl b (lo (ofC a)) (hi (ofC a)) = u at *
  generalize ofC a = c at *
  have c5 := fun w h1 h2 => rwith_calls c w h1 h2 hc.2
  have hcl : ∀ l h : Int, cl by_ l h = if by_ > h then h else if by_ < l then min l h else by_ := fun l h => by unfold cl; split <;> (try split) <;> omega
  rw [hcl]
  clear hcl
  generalize lo c = l at *
  generalize hi c = h at *
  obtain ⟨hc1, hc2⟩ := hc
  obtain ⟨hl1, hl2, hl3, hl4⟩ := hl
  obtain ⟨h11, h12⟩ := h1
  unfold quotaC
  by_cases hb1 : by_ > h - u
  · rw [if_pos hb1]
    have c5 := c5 h (by omega) (by omega)
    have hd : decide (h - u < by_) = true := decide_eq_true (by omega)
    rw [show u + (h - u) = h by omega]
    clear hb1
    go_enter Try.func31, Try.ntmps31
    go_wp2_with fail
    go_at_call 36
    refine (c1 _).mono ?_
    rintro e w1 ⟨rfl, rfl⟩
    go_wp2_with fail
    go_at_call 37
    refine (c2 _).mono ?_
    rintro e w1 ⟨rfl, rfl⟩
    go_wp2_with fail
    go_at_call 36
    refine (c3 _).mono ?_
    rintro e w1 ⟨rfl, rfl⟩
    go_wp2_with fail
    go_at_call 38
    refine (c5 _).mono ?_
    rintro e w1 ⟨rfl, hb1⟩
    have HO1 := Lib.hid (HO.out.under hb1)
    go_wp2_with (refine store_whole rfl _ _ _ rfl (w0.heap.size + 1) rfl HO1.out (quotaC _ _ _) rfl rfl info_quota (quota_one _ _ _) ?_; intro w2 hO2; have HO2 := Lib.hid hO2; clear hO2)
    exact bodyPost_ret (results_cell_row rfl _ _ (w0.heap.size + 1) _ (quotaC _ _ _) _ _ rfl HO2.out.head und_quota rfl info_quota) rfl ⟨rfl, HO2.out.below⟩
  · rw [if_neg hb1]
    have hd : decide (h - u < by_) = false := decide_eq_false (by omega)
    by_cases hb2 : by_ < l - u
    · rw [if_pos hb2]
      have c5 := c5 l (by omega) (by omega)
      have hd2 : decide (by_ < l - u) = true := decide_eq_true hb2
      rw [show u + min (l - u) (h - u) = l by omega]
      clear hb1 hb2
      go_enter Try.func31, Try.ntmps31
      go_wp2_with fail
      go_at_call 36
      refine (c1 _).mono ?_
      rintro e w1 ⟨rfl, rfl⟩
      go_wp2_with fail
      go_at_call 37
      refine (c2 _).mono ?_
      rintro e w1 ⟨rfl, rfl⟩
      go_wp2_with fail
      go_at_call 36
      refine (c3 _).mono ?_
      rintro e w1 ⟨rfl, rfl⟩
      go_wp2_with fail
      go_at_call 38
      refine (c5 _).mono ?_
      rintro e w1 ⟨rfl, hb1⟩
      have HO1 := Lib.hid (HO.out.under hb1)
      go_wp2_with (refine store_whole rfl _ _ _ rfl (w0.heap.size + 1) rfl HO1.out (quotaC _ _ _) rfl rfl info_quota (quota_one _ _ _) ?_; intro w2 hO2; have HO2 := Lib.hid hO2; clear hO2)
      exact bodyPost_ret (results_cell_row rfl _ _ (w0.heap.size + 1) _ (quotaC _ _ _) _ _ rfl HO2.out.head und_quota rfl info_quota) rfl ⟨rfl, HO2.out.below⟩
    · rw [if_neg hb2]
      have c5 := c5 (u + by_) (by omega) (by omega)
      have hd2 : decide (by_ < l - u) = false := decide_eq_false hb2
      have k1 : 0 ≤ u + by_ := by omega
      have k2 : u + by_ ≤ 4611686018427387903 := by omega
      clear hb1 hb2
      go_enter Try.func31, Try.ntmps31
      go_wp2_with fail
      go_at_call 36
      refine (c1 _).mono ?_
      rintro e w1 ⟨rfl, rfl⟩
      go_wp2_with fail
      go_at_call 37
      refine (c2 _).mono ?_
      rintro e w1 ⟨rfl, rfl⟩
      go_wp2_with fail
      go_at_call 36
      refine (c3 _).mono ?_
      rintro e w1 ⟨rfl, rfl⟩
      go_wp2_with fail
      go_at_call 38
      refine (c5 _).mono ?_
      rintro e w1 ⟨rfl, hb1⟩
      have HO1 := Lib.hid (HO.out.under hb1)
      go_wp2_with (refine store_whole rfl _ _ _ rfl (w0.heap.size + 1) rfl HO1.out (quotaC _ _ _) rfl rfl info_quota (quota_one _ _ _) ?_; intro w2 hO2; have HO2 := Lib.hid hO2; clear hO2)
      exact bodyPost_ret (results_cell_row rfl _ _ (w0.heap.size + 1) _ (quotaC _ _ _) _ _ rfl HO2.out.head und_quota rfl info_quota) rfl ⟨rfl, HO2.out.below⟩
end Go.Proofs.Ytndmbajdafecoaa
