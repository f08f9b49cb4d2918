/- The statements of layer 10: the small case, and ClimbTells. -/
import Derived.Test.YtndmbajdafecoaaClimbPlayR
import Derived.Lib.QuietBelow
namespace Go.Proofs.Ytndmbajdafecoaa
open Go.RowKit Go.Sep
theorem readsb_lit (w : World) (l : List Bool) (t : TypeId) (hl : l.length ≤ 9223372036854775807) : ReadsB (w.alloc (.cells (l.map Value.bool).toArray t)) (.slice (some ⟨w.heap.size, 0, none⟩) l.length l.length) l := by
  refine ⟨hl, some ⟨w.heap.size, 0, none⟩, l.length, rfl, Nat.le_refl _, (fun h => by cases h), fun _ => ⟨w.heap.size, 0, rfl, fun i hi => ?_⟩⟩
  rw [Nat.zero_add]
  simp only [World.cell?, heap_alloc_new]
  simp [List.getD, hi]
theorem sm_turn : rateN 1 1 = 32768 ∧ stepN 1 1 0 5 160 = 10 ∧ farN 1 1 0 5 = 5 := by decide +kernel
theorem sm_first : firstN 160 = 10 := by decide +kernel
theorem sm_due : dueB 2 0 2 = true := by decide +kernel
theorem sm_rate : rateN 1 3 = 16384 := by decide +kernel
theorem sm_m : (playP 1600 2 [true, true, false]).m = 1 := by decide +kernel
theorem sm_w : (playP 1600 2 [true, true, false]).w = 116 := by decide +kernel
set_option maxHeartbeats 1600000 in
theorem small_calls : TellsB 8 #[] (.bool true) := by
  intro w0
  have c1 := turn_calls 1 1 0 5 160
  rw [sm_turn.1, sm_turn.2.1, sm_turn.2.2] at c1
  have c2 := new_calls 160
  rw [sm_first] at c2
  have c3 := due_calls 2 0 0 0 2
  rw [sm_due] at c3
  have c4 := rate_calls 1 3 0 0
  rw [sm_rate] at c4
  have hm := sm_m
  have hw := sm_w
  have c5 := fun v w hv => play_calls 1600 2 v [true, true, false] w hv
  generalize playP 1600 2 [true, true, false] = x at *
  obtain ⟨h, m, l, s, c, w', p⟩ := x
  simp only at hm hw
  subst hm hw
  have c5 : ∀ v w, ReadsB w v [true, true, false] → Calls Try.prog 19 #[.int .i64 1600, .int .i64 2, v] w fun e w'' => e = .returned (.tuple #[.agg (climbC h 1 l s), .agg (quotaC c 116 p)]) ∧ Below w.heap.size w w'' := c5
  unfold climbC quotaC at *
  have hfield : ∀ w, (Instr.field 23 (.agg #[.int .i64 0, .int .i64 0, .int .i64 0, .int .i64 10]) 3).run Try.prog w = .ok (.int .i64 10) w := fun w => by kernel_rfl
  go_enter Try.func8, Try.ntmps8
  go_wp2_with fail
  go_at_call 9
  refine (c1 _).mono ?_
  rintro e w1 ⟨rfl, hb1⟩
  have HO1 := Lib.hid (((Owned.nil w0).under hb1).alloc (.cells #[.int .i64 0, .int .i64 0, .int .i64 0, .int .i64 0] 23))
  go_wp2_with (first
    | (refine store_whole rfl _ _ _ rfl w1.heap.size rfl HO1.out #[.int .i64 0, .int .i64 0, .int .i64 32768, .int .i64 10] rfl rfl info_climb (climb_one _ _ _ _) ?_; intro w2 hO2; have HO2 := Lib.hid hO2; clear hO2 HO1)
    | (go_at_call 19; refine (c5 _ _ (readsb_lit _ [true, true, false] _ (by decide))).mono ?_; rintro e w3 ⟨rfl, hb3⟩; have HO3 := Lib.hid (((HO2.out.alloc_ _).under hb3).alloc2 (.cells #[.int .i64 0, .int .i64 0, .int .i64 0, .int .i64 0] 23) (.cells #[.int .i64 0, .int .i64 0, .int .i64 0] 34)); clear HO2)
    | (refine store_whole rfl _ _ _ rfl w3.heap.size rfl HO3.out #[.int .i64 h, .int .i64 1, .int .i64 l, .int .i64 s] rfl rfl info_climb (climb_one _ _ _ _) ?_; intro w4 hO4; have HO4 := Lib.hid hO4.swap; clear hO4 HO3)
    | (refine store_whole rfl _ _ _ rfl (w3.heap.size + 1) rfl HO4.out #[.int .i64 c, .int .i64 116, .int .i64 p] rfl rfl info_quota (quota_one _ _ _) ?_; intro w5 hO5; have HO5 := Lib.hid hO5.swap2; clear hO5 HO4)
    | (refine load_whole rfl _ _ rfl w1.heap.size rfl HO5.out _ und_climb rfl info_climb ?_)
    | (go_at_call 17; refine (c2 _).mono ?_; rintro e w6 ⟨rfl, hb6⟩; have HO6 := Lib.hid (HO5.out.under hb6); clear HO5)
    | (go_at_call 13; refine (c3 _).mono ?_; rintro e w7 ⟨rfl, hb7⟩; have HO7 := Lib.hid (HO6.out.under hb7); clear HO6)
    | (go_at_call 15; refine (c4 _).mono ?_; rintro e w8 ⟨rfl, hb8⟩; have HO8 := Lib.hid (HO7.out.under hb8).swap2; clear HO7; have g1 : w8.cell? ⟨w3.heap.size, 1, none⟩ = some (.int .i64 1) := Owned.cell HO8.out 1; have g2 : w8.cell? ⟨w3.heap.size + 1, 1, none⟩ = some (.int .i64 116) := Owned.cell HO8.out.swap2 1))
  go_ret
  exact ⟨rfl, HO8.out.below⟩
set_option maxHeartbeats 3200000 in
theorem tells_walk (h m l s : Int) (hit : Bool) (per cap : Int) : TellsB 3 #[.agg (climbC h m l s), .bool hit, .int .i64 per, .int .i64 cap] (.bool true) := by
  intro w0
  have c1 := fun w => turn_calls h m l s cap w
  have c2 := fun w => rturn_calls h m l s cap w
  have c3 := fun w => count_calls h m l s hit w
  have c4 := fun w => rcount_calls h m l s hit w
  have c5 := fun w => due_calls h m l s per w
  have c6 := fun w => rdue_calls h m l s per w
  have c7 := fun w => rate_calls h m l s w
  have c8 := fun w => rrate_calls h m l s w
  have c9 := fun w => new_calls cap w
  have c10 := fun w => rnew_calls cap w
  simp only [countC] at c3 c4
  generalize (if hit = true then fitN (fitN h + 1) else fitN h) = h1 at *
  generalize (if hit = true then fitN m else fitN (fitN m + 1)) = m1 at *
  generalize fitL l = l1 at *
  generalize fitS s = s1 at *
  generalize stepN h m l s cap = st at *
  generalize farN h m l s = far at *
  generalize rateN h m = r at *
  generalize dueB h m per = du at *
  generalize firstN cap = fi at *
  have HO := Lib.hid ((Owned.nil w0).alloc (.cells #[.int .i64 h, .int .i64 m, .int .i64 l, .int .i64 s] 23))
  unfold climbC at *
  go_enter Try.func3, Try.ntmps3
  go_wp2_with fail
  go_at_call 8
  refine (small_calls _).mono ?_
  rintro e w1 ⟨rfl, hb1⟩
  have HO1 := Lib.hid (HO.out.under hb1)
  clear HO hb1
  go_wp2_with (first
    | (refine load_whole rfl _ _ rfl w0.heap.size rfl HO1.out _ und_climb rfl info_climb ?_)
    | (go_at_call 9; refine (c1 _).mono ?_; rintro e w2 ⟨rfl, hb2⟩; have HO2 := Lib.hid ((HO1.out.under hb2).alloc (.cells #[.int .i64 0, .int .i64 0, .int .i64 0, .int .i64 0] 23)); clear HO1)
    | (refine store_whole rfl _ _ _ rfl w2.heap.size rfl HO2.out #[.int .i64 0, .int .i64 0, .int .i64 r, .int .i64 st] rfl rfl info_climb (climb_one _ _ _ _) ?_; intro w3 hO3; have HO3 := Lib.hid hO3.swap; clear hO3 HO2)
    | (refine load_whole rfl _ _ rfl w0.heap.size rfl HO3.out _ und_climb rfl info_climb ?_)
    | (go_at_call 10; refine (c2 _).mono ?_; rintro e w4 ⟨rfl, hb4⟩; have HO4 := Lib.hid ((HO3.out.under hb4).alloc (.cells #[.int .i64 0, .int .i64 0, .int .i64 0, .int .i64 0] 23)); clear HO3)
    | (refine store_whole rfl _ _ _ rfl w4.heap.size rfl HO4.out #[.int .i64 0, .int .i64 0, .int .i64 r, .int .i64 st] rfl rfl info_climb (climb_one _ _ _ _) ?_; intro w5 hO5; have HO5 := Lib.hid hO5; clear hO5 HO4))
  obtain ⟨a0, a1, a2, a3, _, _, _, _⟩ := climb_facts (a := 0) (b := 0) (c := r) (d := st) HO5.out
  obtain ⟨b0, b1, b2, b3, _, _, _, _⟩ := climb_facts (a := h) (b := m) (c := l) (d := s) HO5.out.swap
  obtain ⟨d0, d1, d2, d3, _, _, _, _⟩ := climb_facts (a := 0) (b := 0) (c := r) (d := st) HO5.out.swap2
  replace a0 := cell_regrown a0
  replace a1 := cell_regrown a1
  replace a2 := cell_regrown a2
  replace a3 := cell_regrown a3
  replace b0 := cell_regrown b0
  replace b1 := cell_regrown b1
  replace b2 := cell_regrown b2
  replace b3 := cell_regrown b3
  replace d0 := cell_regrown d0
  replace d1 := cell_regrown d1
  replace d2 := cell_regrown d2
  replace d3 := cell_regrown d3
  clear hb2 hb4 c1 c2
  refine wp_region_quiet_below (by kernel_rfl) (by kernel_rfl) ?_
  repeat (first | go_big_quiet_step ((first | (go_at_call 11; with_reducible exact Calls.regrown_of (c3 _)) | (go_at_call 12; with_reducible exact Calls.regrown_of (c4 _)) | (go_at_call 13; with_reducible exact Calls.regrown_of (c5 _)) | (go_at_call 14; with_reducible exact Calls.regrown_of (c6 _)) | (go_at_call 15; with_reducible exact Calls.regrown_of (c7 _)) | (go_at_call 16; with_reducible exact Calls.regrown_of (c8 _)) | (go_at_call 17; with_reducible exact Calls.regrown_of (c9 _)) | (go_at_call 18; with_reducible exact Calls.regrown_of (c10 _)))) | quiet_step ((first | (go_at_call 11; with_reducible exact Calls.regrown_of (c3 _)) | (go_at_call 12; with_reducible exact Calls.regrown_of (c4 _)) | (go_at_call 13; with_reducible exact Calls.regrown_of (c5 _)) | (go_at_call 14; with_reducible exact Calls.regrown_of (c6 _)) | (go_at_call 15; with_reducible exact Calls.regrown_of (c7 _)) | (go_at_call 16; with_reducible exact Calls.regrown_of (c8 _)) | (go_at_call 17; with_reducible exact Calls.regrown_of (c9 _)) | (go_at_call 18; with_reducible exact Calls.regrown_of (c10 _)))))
  refine wpQuiet_nil ?_
  intro _ hw'
  obtain ⟨⟨dq, osq⟩, hw''⟩ := hw'
  subst hw''
  go_wp2_with fail
  go_ret
  exact ⟨rfl, (HO5.out.under (below_regrown _ dq osq)).below⟩
end Go.Proofs.Ytndmbajdafecoaa
