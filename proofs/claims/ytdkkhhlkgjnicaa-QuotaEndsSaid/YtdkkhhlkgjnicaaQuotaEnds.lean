/- The statement QuotaEnds: the walk. -/
import Derived.Test.YtdkkhhlkgjnicaaQuotaRef2
import Derived.Lib.QuietBelow
namespace Go.Proofs.Ytdkkhhlkgjnicaa
open Go.RowKit Go.Sep
theorem of0 : ofQ 0 = .agg #[.int .i64 0, .int .i64 0, .int .i64 0] := by kernel_rfl
theorem sh0 : shQ 0 0 5 = .agg #[.int .i64 0, .int .i64 0, .int .i64 0] := by kernel_rfl
set_option maxHeartbeats 800000 in
theorem ends_out (c : Int) (hc : c < 1 ∨ 1 ≤ c ∧ 4611686018427387903 < c) : TellsB 6 #[.int .i64 c] (.bool true) := by
  intro w0
  have c1 := fun w => of_calls 0 w
  have c2 := fun w => shift_calls 0 0 0 5 w
  rw [of0] at c1
  rw [sh0] at c2
  unfold quotaC at *
  have hd : decide (c < 1) = true ∨ decide (c < 1) = false ∧ decide (4611686018427387903 < c) = true := by
    rcases hc with h | ⟨h1, h2⟩
    · exact .inl (decide_eq_true h)
    · exact .inr ⟨decide_eq_false (by omega), decide_eq_true h2⟩
  clear hc
  rcases hd with hd | ⟨hd1, hd2⟩
  all_goals
    go_enter Try.func6, Try.ntmps6
    go_wp2_with fail
    go_at_call 7
    refine (small_calls _).mono ?_
    rintro e w1 ⟨rfl, hb1⟩
    go_wp2_with fail
    go_at_call 9
    refine (c1 _).mono ?_
    rintro e w2 ⟨rfl, hb2⟩
    go_wp2_with fail
    go_at_call 11
    refine (c2 _).mono ?_
    rintro e w3 ⟨rfl, hb3⟩
    go_wp2_with fail
    go_at_call 9
    refine (c1 _).mono ?_
    rintro e w4 ⟨rfl, hb4⟩
    go_wp2_with fail
    go_ret
    have m2 := hb1.trans (hb2.mono hb1.size)
    have m3 := m2.trans (hb3.mono m2.size)
    exact ⟨rfl, m3.trans (hb4.mono m3.size)⟩
theorem ofC_id {c : Int} (h0 : 0 ≤ c) (h1 : c ≤ 4611686018427387903) : ofC c = c := cl_id h0 h1
theorem sh_up {c u : Int} (h0 : 1 ≤ c) (h1 : c ≤ 4611686018427387903) (hl : lo c ≤ u) (hh : u ≤ hi c) : shW c u 9223372036854775807 = hi c := by
  have h2 := lohi (show 0 ≤ c by omega)
  unfold shW
  rw [ofC_id (by omega) h1, cl_id hl hh]
  unfold cl
  omega
theorem sh_down {c u : Int} (h0 : 1 ≤ c) (h1 : c ≤ 4611686018427387903) (hl : lo c ≤ u) (hh : u ≤ hi c) : shW c u (-9223372036854775808) = 1 := by
  have h2 := lohi (show 0 ≤ c by omega)
  have h3 : lo c = 1 := by unfold lo; rw [if_neg (by omega)]
  unfold shW
  rw [ofC_id (by omega) h1, cl_id hl hh]
  unfold cl
  omega
set_option maxHeartbeats 6400000 in
theorem ends_in (c : Int) (h0 : 1 ≤ c) (h1 : c ≤ 4611686018427387903) : TellsB 6 #[.int .i64 c] (.bool true) := by
  intro w0
  have hl := lohi (show 0 ≤ c by omega)
  have hlo : lo c = 1 := by unfold lo; rw [if_neg (by omega)]
  have hw := ofW_in c
  rw [ofC_id (by omega) h1] at hw
  have c1 := fun w => of_calls c w
  have c2 := fun w => shift_calls c (ofW c) (pr c (ofW c)) 9223372036854775807 w
  have c3 := fun w => shift_calls c (ofW c) (pr c (ofW c)) (-9223372036854775808) w
  have c4 := fun w => shift_calls c (hi c) (pr c (hi c)) (-9223372036854775808) w
  have c5 := fun w => shift_calls c 1 (pr c 1) 9223372036854775807 w
  simp only [shQ, ofQ, ofC_id (show 0 ≤ c by omega) h1] at c1 c2 c3 c4 c5
  rw [sh_up h0 h1 hw.1 hw.2] at c2
  rw [sh_down h0 h1 hw.1 hw.2] at c3
  rw [sh_down h0 h1 (by omega) (by omega)] at c4
  rw [sh_up h0 h1 (by omega) (by omega)] at c5
  have hu : (hi c == c - c / 5) = true := by
    rw [beq_iff_eq]; unfold hi; rw [if_neg (by omega)]
  have hgt : decide (1 < c) = true ∨ decide (1 < c) = false ∧ (hi c == 1) = true ∧ (pr c (hi c) == pr c 1) = true := by
    by_cases h : 1 < c
    · exact .inl (decide_eq_true h)
    · have e : c = 1 := by omega
      subst e
      exact .inr ⟨rfl, rfl, rfl⟩
  have d1 : decide (c < 1) = false := decide_eq_false (by omega)
  have d2 : decide (4611686018427387903 < c) = false := decide_eq_false (by omega)
  have ht1 : IntKind.i64.wrap (c.tdiv 5) = c / 5 := by rw [Int.tdiv_eq_ediv_of_nonneg (by omega), IntKind.wrap_i64]; omega
  have ht2 : IntKind.i64.wrap (c - c / 5) = c - c / 5 := by rw [IntKind.wrap_i64]; omega
  have HT1 := Lib.hid ht1
  have HT2 := Lib.hid ht2
  clear ht1 ht2
  generalize ofW c = x at *
  generalize pr c x = y at *
  generalize hp1 : pr c (hi c) = q1 at *
  generalize hp2 : pr c 1 = q2 at *
  generalize hi c = u at *
  clear hp1 hp2 hl hlo hw h1
  unfold quotaC at *
  rcases hgt with hg | ⟨hg1, hg2, hg3⟩
  all_goals
    go_enter Try.func6, Try.ntmps6
    go_wp2_with fail
    go_at_call 7
    refine (small_calls _).mono ?_
    rintro e w1 ⟨rfl, hb1⟩
    go_wp2_with fail
    go_at_call 9
    refine (c1 _).mono ?_
    rintro e w2 ⟨rfl, hb2⟩
    go_wp2_with fail
    go_at_call 11
    refine (c2 _).mono ?_
    rintro e w3 ⟨rfl, hb3⟩
    have m2 := hb1.trans (hb2.mono hb1.size)
    have m3 := m2.trans (hb3.mono m2.size)
    clear hb1 hb2 hb3 m2
    have HO := Lib.hid (((Owned.nil w0).under m3).alloc (.cells #[.int .i64 c, .int .i64 u, .int .i64 q1] 23))
    go_wp2_with fail
    go_at_call 9
    refine (c1 _).mono ?_
    rintro e w4 ⟨rfl, hb4⟩
    go_wp2_with fail
    go_at_call 11
    refine (c3 _).mono ?_
    rintro e w5 ⟨rfl, hb5⟩
    have HO5 := Lib.hid ((((HO.out.under hb4).under hb5)).alloc (.cells #[.int .i64 c, .int .i64 1, .int .i64 q2] 23))
    have ku0 := cell_regrown (show (w5.alloc (.cells #[.int .i64 c, .int .i64 1, .int .i64 q2] 23)).cell? ⟨w3.heap.size, 0, none⟩ = some (.int .i64 c) from Owned.cell HO5.out.swap 0)
    have ku1 := cell_regrown (show (w5.alloc (.cells #[.int .i64 c, .int .i64 1, .int .i64 q2] 23)).cell? ⟨w3.heap.size, 1, none⟩ = some (.int .i64 u) from Owned.cell HO5.out.swap 1)
    have ku2 := cell_regrown (show (w5.alloc (.cells #[.int .i64 c, .int .i64 1, .int .i64 q2] 23)).cell? ⟨w3.heap.size, 2, none⟩ = some (.int .i64 q1) from Owned.cell HO5.out.swap 2)
    have kd0 := cell_regrown (show (w5.alloc (.cells #[.int .i64 c, .int .i64 1, .int .i64 q2] 23)).cell? ⟨w5.heap.size, 0, none⟩ = some (.int .i64 c) from Owned.cell HO5.out 0)
    have kd1 := cell_regrown (show (w5.alloc (.cells #[.int .i64 c, .int .i64 1, .int .i64 q2] 23)).cell? ⟨w5.heap.size, 1, none⟩ = some (.int .i64 1) from Owned.cell HO5.out 1)
    have kd2 := cell_regrown (show (w5.alloc (.cells #[.int .i64 c, .int .i64 1, .int .i64 q2] 23)).cell? ⟨w5.heap.size, 2, none⟩ = some (.int .i64 q2) from Owned.cell HO5.out 2)
    clear hb4 hb5 HO m3
    go_wp2_with fail
    have ht1 := HT1.out
    have ht2 := HT2.out
    refine wp_region_quiet_below (by kernel_rfl) (by kernel_rfl) ?_
    repeat (first
      | go_big_quiet_step ((first | (go_at_call 11; with_reducible exact Calls.regrown_of (c4 _)) | (go_at_call 11; with_reducible exact Calls.regrown_of (c5 _))))
      | quiet_step ((first | (go_at_call 11; with_reducible exact Calls.regrown_of (c4 _)) | (go_at_call 11; with_reducible exact Calls.regrown_of (c5 _)))))
    refine wpQuiet_nil ?_
    intro _ hw'
    obtain ⟨⟨dq, osq⟩, hw''⟩ := hw'
    subst hw''
    go_wp2_with fail
    go_ret
    exact ⟨rfl, (HO5.out.under (below_regrown _ dq osq)).below⟩
theorem ends_walk (c : Int) : TellsB 6 #[.int .i64 c] (.bool true) := by
  by_cases h : 1 ≤ c ∧ c ≤ 4611686018427387903
  · exact ends_in c h.1 h.2
  · exact ends_out c (by omega)
end Go.Proofs.Ytdkkhhlkgjnicaa
