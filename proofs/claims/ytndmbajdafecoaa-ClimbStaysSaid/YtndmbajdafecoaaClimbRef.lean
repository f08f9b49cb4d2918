/- Contracts of the document's layer 10: climbs. -/
import Derived.Test.YtndmbajdafecoaaClimb2
import Derived.Deep.DeepCutAuto
namespace Go.Proofs.Ytndmbajdafecoaa
open Go.RowKit Go.Sep
set_option maxHeartbeats 800000 in
theorem rfit_calls (h m l s : Int) : TellsB 25 #[.agg (climbC h m l s)] (.agg (fitC h m l s)) := by
  intro w0
  have hO := ((Owned.nil w0).alloc (.cells (fitC h m l s) 23)).alloc (.cells (climbC 0 0 0 0) 23)
  rw [show (w0.alloc (.cells (fitC h m l s) 23)).heap.size = w0.heap.size + 1 by simp] at hO
  have HO4 := Lib.hid hO.swap
  have hmax := max_if
  have hmin := min_if
  clear hO
  unfold fitC climbC fitN fitL fitS cl at *
  go_enter Try.func25, Try.ntmps25
  go_upto_region 5 with (fail)
  go_wp2_with (first
    | (refine load_whole rfl _ _ rfl w0.heap.size rfl HO4.out _ und_climb rfl info_climb ?_)
    | (refine store_whole rfl _ _ _ rfl (w0.heap.size + 1) rfl HO4.out.swap (climbC _ _ _ _) rfl rfl info_climb (climb_one _ _ _ _) ?_; intro w5 hO5; have HO5 := Lib.hid hO5; clear hO5))
  exact bodyPost_ret (results_cell_row rfl _ _ (w0.heap.size + 1) _ (climbC _ _ _ _) _ _ rfl HO5.out.head und_climb rfl info_climb) rfl ⟨rfl, HO5.out.below⟩
theorem rfirst_calls (c : Int) : Tells 27 #[.int .i64 c] (.int .i64 (firstN c)) := by
  intro w
  have h1 : 0 ≤ min (max c 0) 4611686018427387903 := by omega
  have h2 : min (max c 0) 4611686018427387903 ≤ 4611686018427387903 := by omega
  unfold firstN
  have hmax := max_if
  have hmin := min_if
  go_enter Try.func27, Try.ntmps27
  go_wp2
  go_ret
  exact ⟨rfl, rfl⟩
set_option maxHeartbeats 800000 in
theorem rpart_calls (n : Int) (h0 : -4611686018427387903 ≤ n) (h1 : n ≤ 4611686018427387903) : Tells 26 #[.int .i64 n] (.int .i64 (keptN n)) := by
  intro w
  have HK := Lib.hid (kept_word n h0 h1)
  clear h0 h1
  go_enter Try.func26, Try.ntmps26
  go_wp2
  go_ret
  refine ⟨ret_int ?_, rfl⟩
  rw [← HK.out]
theorem rnew_calls (c : Int) : TellsB 18 #[.int .i64 c] (.agg (climbC 0 0 0 (firstN c))) := by
  intro w0
  have c1 := rfirst_calls c
  have HO := Lib.hid ((Owned.nil w0).alloc (.cells (climbC 0 0 0 0) 23))
  unfold climbC at *
  go_enter Try.func18, Try.ntmps18
  go_wp2_with fail
  go_at_call 27
  refine (c1 _).mono ?_
  rintro e w1 ⟨rfl, rfl⟩
  go_wp2_with (refine store_whole rfl _ _ _ rfl w0.heap.size rfl HO.out (climbC 0 0 0 (firstN c)) rfl rfl info_climb (climb_one _ _ _ _) ?_; intro w2 hO2; have HO2 := Lib.hid hO2; clear hO2)
  exact bodyPost_ret (results_cell_row rfl _ _ w0.heap.size _ (climbC 0 0 0 (firstN c)) _ _ rfl HO2.out.head und_climb rfl info_climb) rfl ⟨rfl, HO2.out.below⟩
set_option maxHeartbeats 800000 in
theorem rrate_calls (h m l s : Int) : TellsB 16 #[.agg (climbC h m l s)] (.int .i64 (rateN h m)) := by
  intro w0
  have c1 : TellsB 25 #[.agg (climbC h m l s)] (.agg (climbC (fitN h) (fitN m) (fitL l) (fitS s))) := rfit_calls h m l s
  have HO := Lib.hid ((Owned.nil w0).alloc (.cells (climbC h m l s) 23))
  obtain ⟨a1, a2⟩ := fitN_in h
  obtain ⟨b1, b2⟩ := fitN_in m
  have hr : (fitN h + fitN m = 0 ∧ rateN h m = 0) ∨ (0 < fitN h + fitN m ∧ rateN h m = fitN h * 65536 / (fitN h + fitN m)) := by
    unfold rateN
    generalize fitN h = a at *
    generalize fitN m = b at *
    by_cases h0 : a + b = 0
    · exact .inl ⟨h0, if_pos (by omega)⟩
    · refine .inr ⟨by omega, ?_⟩
      split
      · rename_i h1; rw [h1, Int.zero_mul, Int.zero_ediv]
      · rfl
  generalize rateN h m = r at *
  generalize fitN h = a at *
  generalize fitN m = b at *
  generalize fitL l = c at *
  generalize fitS s = d at *
  rcases hr with ⟨h0, rfl⟩ | ⟨h0, rfl⟩
  · have hq : (a + b == 0) = true := by rw [beq_iff_eq]; exact h0
    clear h0
    go_enter Try.func16, Try.ntmps16
    go_wp2_with (first
      | (refine load_whole rfl _ _ rfl w0.heap.size rfl HO.out _ und_climb rfl info_climb ?_)
      | (go_at_call 25; refine (c1 _).mono ?_; rintro e w1 ⟨rfl, hb1⟩; have HO1 := Lib.hid (HO.out.under hb1); clear HO c1)
      | (refine store_whole rfl _ _ _ rfl w0.heap.size rfl HO1.out (climbC _ _ _ _) rfl rfl info_climb (climb_one _ _ _ _) ?_; intro w2 hO2; have g0 : w2.cell? ⟨w0.heap.size, 0, none⟩ = some (.int .i64 a) := Owned.cell hO2 0; have g1 : w2.cell? ⟨w0.heap.size, 1, none⟩ = some (.int .i64 b) := Owned.cell hO2 1; have HO2 := Lib.hid hO2; clear hO2))
    go_ret
    exact ⟨rfl, HO2.out.below⟩
  · have hq : (a + b == 0) = false := by rw [beq_eq_false_iff_ne]; omega
    go_enter Try.func16, Try.ntmps16
    go_wp2_with (first
      | (refine load_whole rfl _ _ rfl w0.heap.size rfl HO.out _ und_climb rfl info_climb ?_)
      | (go_at_call 25; refine (c1 _).mono ?_; rintro e w1 ⟨rfl, hb1⟩; have HO1 := Lib.hid (HO.out.under hb1); clear HO c1)
      | (refine store_whole rfl _ _ _ rfl w0.heap.size rfl HO1.out (climbC _ _ _ _) rfl rfl info_climb (climb_one _ _ _ _) ?_; intro w2 hO2; have g0 : w2.cell? ⟨w0.heap.size, 0, none⟩ = some (.int .i64 a) := Owned.cell hO2 0; have g1 : w2.cell? ⟨w0.heap.size, 1, none⟩ = some (.int .i64 b) := Owned.cell hO2 1; have HO2 := Lib.hid hO2; clear hO2))
    go_ret
    exact ⟨rfl, HO2.out.below⟩
set_option maxHeartbeats 800000 in
theorem rdue_calls (h m l s p : Int) : TellsB 14 #[.agg (climbC h m l s), .int .i64 p] (.bool (dueB h m p)) := by
  intro w0
  have c1 : TellsB 25 #[.agg (climbC h m l s)] (.agg (climbC (fitN h) (fitN m) (fitL l) (fitS s))) := rfit_calls h m l s
  have HO := Lib.hid ((Owned.nil w0).alloc (.cells (climbC h m l s) 23))
  obtain ⟨a1, a2⟩ := fitN_in h
  obtain ⟨b1, b2⟩ := fitN_in m
  unfold dueB
  generalize fitN h = a at *
  generalize fitN m = b at *
  generalize fitL l = c at *
  generalize fitS s = d at *
  by_cases hp : 0 < p
  · have hd : decide (0 < p) = true := decide_eq_true hp
    rw [hd, Bool.true_and]
    clear hd
    have hd : decide (1 ≤ p) = true := decide_eq_true (by omega)
    go_enter Try.func14, Try.ntmps14
    go_wp2_with (first
      | (refine load_whole rfl _ _ rfl w0.heap.size rfl HO.out _ und_climb rfl info_climb ?_)
      | (go_at_call 25; refine (c1 _).mono ?_; rintro e w1 ⟨rfl, hb1⟩; have HO1 := Lib.hid (HO.out.under hb1); clear HO c1)
      | (refine store_whole rfl _ _ _ rfl w0.heap.size rfl HO1.out (climbC _ _ _ _) rfl rfl info_climb (climb_one _ _ _ _) ?_; intro w2 hO2; have g0 : w2.cell? ⟨w0.heap.size, 0, none⟩ = some (.int .i64 a) := Owned.cell hO2 0; have g1 : w2.cell? ⟨w0.heap.size, 1, none⟩ = some (.int .i64 b) := Owned.cell hO2 1; have HO2 := Lib.hid hO2; clear hO2))
    go_ret
    exact ⟨rfl, HO2.out.below⟩
  · have hd : decide (0 < p) = false := decide_eq_false hp
    rw [hd, Bool.false_and]
    clear hd
    have hd : decide (1 ≤ p) = false := decide_eq_false (by omega)
    clear hp
    go_enter Try.func14, Try.ntmps14
    go_wp2_with (first
      | (refine load_whole rfl _ _ rfl w0.heap.size rfl HO.out _ und_climb rfl info_climb ?_)
      | (go_at_call 25; refine (c1 _).mono ?_; rintro e w1 ⟨rfl, hb1⟩; have HO1 := Lib.hid (HO.out.under hb1); clear HO c1)
      | (refine store_whole rfl _ _ _ rfl w0.heap.size rfl HO1.out (climbC _ _ _ _) rfl rfl info_climb (climb_one _ _ _ _) ?_; intro w2 hO2; have HO2 := Lib.hid hO2; clear hO2))
    go_ret
    exact ⟨rfl, HO2.out.below⟩
set_option maxHeartbeats 800000 in
theorem rcount_calls (h m l s : Int) (hit : Bool) : TellsB 12 #[.agg (climbC h m l s), .bool hit] (.agg (countC h m l s hit)) := by
  intro w0
  have c1 : TellsB 25 #[.agg (climbC h m l s)] (.agg (climbC (fitN h) (fitN m) (fitL l) (fitS s))) := rfit_calls h m l s
  have hO := ((Owned.nil w0).alloc (.cells (climbC h m l s) 23)).alloc (.cells (climbC 0 0 0 0) 23)
  rw [show (w0.alloc (.cells (climbC h m l s) 23)).heap.size = w0.heap.size + 1 by simp] at hO
  have HO := Lib.hid hO.swap
  clear hO
  obtain ⟨a1, a2⟩ := fitN_in h
  obtain ⟨b1, b2⟩ := fitN_in m
  have e1 : ∀ x y, fitC x y (fitL l) (fitS s) = climbC (fitN x) (fitN y) (fitL l) (fitS s) := fun x y => by unfold fitC; rw [fitL_fit, fitS_fit]
  cases hit with
  | true =>
    have c2 : TellsB 25 #[.agg (climbC (fitN h + 1) (fitN m) (fitL l) (fitS s))] (.agg (climbC (fitN (fitN h + 1)) (fitN m) (fitL l) (fitS s))) := by
      have := rfit_calls (fitN h + 1) (fitN m) (fitL l) (fitS s)
      rw [e1, fitN_fit] at this
      exact this
    have he : countC h m l s true = climbC (fitN (fitN h + 1)) (fitN m) (fitL l) (fitS s) := rfl
    rw [he]
    clear he e1
    generalize fitN (fitN h + 1) = x at *
    generalize fitN h = a at *
    generalize fitN m = b at *
    generalize fitL l = c at *
    generalize fitS s = d at *
    go_enter Try.func12, Try.ntmps12
    go_wp2_with (first
      | (refine load_whole rfl _ _ rfl w0.heap.size rfl HO.out _ und_climb rfl info_climb ?_)
      | (go_at_call 25; refine (c1 _).mono ?_; rintro e w1 ⟨rfl, hb1⟩; have HO1 := Lib.hid (HO.out.under hb1); clear HO c1)
      | (refine store_whole rfl _ _ _ rfl w0.heap.size rfl HO1.out (climbC a b c d) rfl rfl info_climb (climb_one _ _ _ _) ?_; intro w2 hO2; have g0 : w2.cell? ⟨w0.heap.size, 0, none⟩ = some (.int .i64 a) := Owned.cell hO2 0; have f0 := Owned.frozen hO2 0; have HO2 : Hid (Owned w0 _ ((w0.heap.size, .cells (climbC (a + 1) b c d) 23 (0, 0)) :: _)) := Lib.hid (hO2.set 0 (.int .i64 (a + 1))); clear hO2 HO1)
      | (refine load_whole rfl _ _ rfl w0.heap.size rfl HO2.out _ und_climb rfl info_climb ?_)
      | (go_at_call 25; refine (c2 _).mono ?_; rintro e w3 ⟨rfl, hb3⟩; have HO3 := Lib.hid (HO2.out.under hb3); clear HO2)
      | (refine store_whole rfl _ _ _ rfl (w0.heap.size + 1) rfl HO3.out.swap (climbC _ _ _ _) rfl rfl info_climb (climb_one _ _ _ _) ?_; intro w4 hO4; have HO4 := Lib.hid hO4; clear hO4))
    exact bodyPost_ret (results_cell_row rfl _ _ (w0.heap.size + 1) _ (climbC x b c d) _ _ rfl HO4.out.head und_climb rfl info_climb) rfl ⟨rfl, HO4.out.below⟩
  | false =>
    have c2 : TellsB 25 #[.agg (climbC (fitN h) (fitN m + 1) (fitL l) (fitS s))] (.agg (climbC (fitN h) (fitN (fitN m + 1)) (fitL l) (fitS s))) := by
      have := rfit_calls (fitN h) (fitN m + 1) (fitL l) (fitS s)
      rw [e1, fitN_fit] at this
      exact this
    have he : countC h m l s false = climbC (fitN h) (fitN (fitN m + 1)) (fitL l) (fitS s) := rfl
    rw [he]
    clear he e1
    generalize fitN (fitN m + 1) = x at *
    generalize fitN h = a at *
    generalize fitN m = b at *
    generalize fitL l = c at *
    generalize fitS s = d at *
    go_enter Try.func12, Try.ntmps12
    go_wp2_with (first
      | (refine load_whole rfl _ _ rfl w0.heap.size rfl HO.out _ und_climb rfl info_climb ?_)
      | (go_at_call 25; refine (c1 _).mono ?_; rintro e w1 ⟨rfl, hb1⟩; have HO1 := Lib.hid (HO.out.under hb1); clear HO c1)
      | (refine store_whole rfl _ _ _ rfl w0.heap.size rfl HO1.out (climbC a b c d) rfl rfl info_climb (climb_one _ _ _ _) ?_; intro w2 hO2; have g0 : w2.cell? ⟨w0.heap.size, 1, none⟩ = some (.int .i64 b) := Owned.cell hO2 1; have f0 := Owned.frozen hO2 1; have HO2 : Hid (Owned w0 _ ((w0.heap.size, .cells (climbC a (b + 1) c d) 23 (0, 0)) :: _)) := Lib.hid (hO2.set 1 (.int .i64 (b + 1))); clear hO2 HO1)
      | (refine load_whole rfl _ _ rfl w0.heap.size rfl HO2.out _ und_climb rfl info_climb ?_)
      | (go_at_call 25; refine (c2 _).mono ?_; rintro e w3 ⟨rfl, hb3⟩; have HO3 := Lib.hid (HO2.out.under hb3); clear HO2)
      | (refine store_whole rfl _ _ _ rfl (w0.heap.size + 1) rfl HO3.out.swap (climbC _ _ _ _) rfl rfl info_climb (climb_one _ _ _ _) ?_; intro w4 hO4; have HO4 := Lib.hid hO4; clear hO4))
    exact bodyPost_ret (results_cell_row rfl _ _ (w0.heap.size + 1) _ (climbC a x c d) _ _ rfl HO4.out.head und_climb rfl info_climb) rfl ⟨rfl, HO4.out.below⟩
set_option maxHeartbeats 3200000 in
theorem rturn_calls (h m l s cap : Int) : TellsB 10 #[.agg (climbC h m l s), .int .i64 cap] (.tuple #[.agg (climbC 0 0 (rateN h m) (stepN h m l s cap)), .int .i64 (farN h m l s)]) := by
  intro w0
  have c1 : TellsB 25 #[.agg (climbC h m l s)] (.agg (climbC (fitN h) (fitN m) (fitL l) (fitS s))) := rfit_calls h m l s
  have c2 := rrate_calls (fitN h) (fitN m) (fitL l) (fitS s)
  rw [rateN_fit] at c2
  have c3 := rpart_calls (farN h m l s) (farN_in h m l s).1 (farN_in h m l s).2
  have c4 := rfirst_calls cap
  have hO := ((Owned.nil w0).alloc (.cells (climbC h m l s) 23)).alloc (.cells (climbC 0 0 0 0) 23)
  rw [show (w0.alloc (.cells (climbC h m l s) 23)).heap.size = w0.heap.size + 1 by simp] at hO
  have HO := Lib.hid hO.swap
  clear hO
  obtain ⟨r1, r2⟩ := rateN_in h m
  obtain ⟨l1, l2⟩ := fitL_in l
  obtain ⟨s1, s2⟩ := fitS_in s
  obtain ⟨k1, k2⟩ := firstN_in cap
  have hf : (rateN h m < fitL l ∧ farN h m l s = - fitS s) ∨ (¬ rateN h m < fitL l ∧ farN h m l s = fitS s) := by
    unfold farN
    by_cases hh : rateN h m < fitL l
    · exact .inl ⟨hh, if_pos hh⟩
    · exact .inr ⟨hh, if_neg hh⟩
  have hs : (3277 ≤ rateN h m - fitL l ∨ 3277 ≤ fitL l - rateN h m) ∧ farN h m l s < 0 ∧ stepN h m l s cap = - firstN cap ∨
      (3277 ≤ rateN h m - fitL l ∨ 3277 ≤ fitL l - rateN h m) ∧ ¬ farN h m l s < 0 ∧ stepN h m l s cap = firstN cap ∨
      ¬ (3277 ≤ rateN h m - fitL l ∨ 3277 ≤ fitL l - rateN h m) ∧ stepN h m l s cap = keptN (farN h m l s) := by
    unfold stepN
    by_cases h1 : 3277 ≤ rateN h m - fitL l ∨ 3277 ≤ fitL l - rateN h m
    · rw [if_pos h1]
      by_cases h2 : farN h m l s < 0
      · exact .inl ⟨h1, h2, if_pos h2⟩
      · exact .inr (.inl ⟨h1, h2, if_neg h2⟩)
    · rw [if_neg h1]
      exact .inr (.inr ⟨h1, rfl⟩)
  generalize stepN h m l s cap = st at *
  generalize farN h m l s = f at *
  generalize keptN f = kf at *
  generalize firstN cap = fi at *
  generalize rateN h m = r at *
  generalize fitN h = a at *
  generalize fitN m = b at *
  generalize fitL l = c at *
  generalize fitS s = d at *
  have HS := Lib.hid hs
  clear hs
  rcases hf with ⟨hlt, hfe⟩ | ⟨hlt, hfe⟩
  all_goals
    subst f
    go_enter Try.func10, Try.ntmps10
    go_wp2_with (first
      | (refine load_whole rfl _ _ rfl w0.heap.size rfl HO.out _ und_climb rfl info_climb ?_)
      | (go_at_call 25; refine (c1 _).mono ?_; rintro e w1 ⟨rfl, hb1⟩; have HO1 := Lib.hid (HO.out.under hb1); clear HO c1)
      | (refine store_whole rfl _ _ _ rfl w0.heap.size rfl HO1.out (climbC a b c d) rfl rfl info_climb (climb_one _ _ _ _) ?_; intro w2 hO2; have HO2 := Lib.hid hO2; clear hO2 HO1)
      | (refine load_whole rfl _ _ rfl w0.heap.size rfl HO2.out _ und_climb rfl info_climb ?_)
      | (go_at_call 16; refine (c2 _).mono ?_; rintro e w3 ⟨rfl, hb3⟩; have HO3 := Lib.hid (HO2.out.under hb3); clear HO2; have g2 : w3.cell? ⟨w0.heap.size, 2, none⟩ = some (.int .i64 c) := Owned.cell HO3.out 2; have g3 : w3.cell? ⟨w0.heap.size, 3, none⟩ = some (.int .i64 d) := Owned.cell HO3.out 3)
      | (go_at_call 26; refine (c3 _).mono ?_; rintro e w4 ⟨rfl, rfl⟩)
      | (go_at_call 27; refine (c4 _).mono ?_; rintro e w6 ⟨rfl, rfl⟩)
      | (refine store_whole rfl _ _ _ rfl (w0.heap.size + 1) rfl HO3.out.swap (climbC 0 0 r _) rfl rfl info_climb (climb_one _ _ _ _) ?_; intro w8 hO8; have HO8 := Lib.hid hO8; clear hO8))
    all_goals
      first
        | exact bodyPost_ret (results_cell_tmp rfl _ _ (w0.heap.size + 1) _ (climbC 0 0 r kf) _ _ rfl HO8.out.head und_climb rfl info_climb) rfl ⟨by rw [show st = kf by have := HS.out; omega]; rfl, HO8.out.below⟩
        | exact bodyPost_ret (results_cell_tmp rfl _ _ (w0.heap.size + 1) _ (climbC 0 0 r fi) _ _ rfl HO8.out.head und_climb rfl info_climb) rfl ⟨by rw [show st = fi by have := HS.out; omega]; rfl, HO8.out.below⟩
        | exact bodyPost_ret (results_cell_tmp rfl _ _ (w0.heap.size + 1) _ (climbC 0 0 r (-fi)) _ _ rfl HO8.out.head und_climb rfl info_climb) rfl ⟨by rw [show st = (-fi) by have := HS.out; omega]; rfl, HO8.out.below⟩
end Go.Proofs.Ytndmbajdafecoaa
