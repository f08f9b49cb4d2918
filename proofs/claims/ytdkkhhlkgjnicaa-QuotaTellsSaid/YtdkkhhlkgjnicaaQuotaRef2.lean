/- The statements' small case of layer 9. -/
import Derived.Test.YtdkkhhlkgjnicaaQuotaRefSh
import Derived.Test.YtdkkhhlkgjnicaaQuotaMain
namespace Go.Proofs.Ytdkkhhlkgjnicaa
open Go.RowKit Go.Sep
theorem of1000 : ofQ 1000 = .agg #[.int .i64 1000, .int .i64 10, .int .i64 792] := by kernel_rfl
theorem sh1000 : shQ 1000 10 90 = .agg #[.int .i64 1000, .int .i64 100, .int .i64 720] := by kernel_rfl
theorem ofm1 : ofQ (-1) = .agg #[.int .i64 0, .int .i64 0, .int .i64 0] := by kernel_rfl
theorem of1 : ofQ 1 = .agg #[.int .i64 1, .int .i64 1, .int .i64 0] := by kernel_rfl
theorem right1000 : rightB 1000 10 792 = true := by decide +kernel
theorem main1000 : mainN 1000 10 792 = 990 := by decide +kernel
set_option maxHeartbeats 800000 in
theorem small_calls : TellsB 7 #[] (.bool true) := by
  intro w0
  have c1 := of_calls 1000
  rw [of1000] at c1
  have c2 := shift_calls 1000 10 792 90
  rw [sh1000] at c2
  have c3 := right_calls 1000 10 792
  rw [right1000] at c3
  have c4 := main_calls 1000 10 792
  rw [main1000] at c4
  have c5 := of_calls (-1)
  rw [ofm1] at c5
  have c6 := of_calls 1
  rw [of1] at c6
  unfold quotaC at *
  go_enter Try.func7, Try.ntmps7
  go_wp2_with fail
  go_at_call 9
  refine (c1 _).mono ?_
  rintro e w1 ⟨rfl, hb1⟩
  have hO := ((Owned.nil w0).under hb1).alloc (.cells #[.int .i64 1000, .int .i64 10, .int .i64 792] 23)
  have HO := Lib.hid hO
  clear hO
  go_wp2_with fail
  go_at_call 11
  refine (c2 _).mono ?_
  rintro e w2 ⟨rfl, hb2⟩
  have HO2 := Lib.hid (HO.out.under hb2)
  have g0 : w2.cell? ⟨w1.heap.size, 0, none⟩ = some (.int .i64 1000) := Owned.cell HO2.out 0
  have g1 : w2.cell? ⟨w1.heap.size, 1, none⟩ = some (.int .i64 10) := Owned.cell HO2.out 1
  have g2 : w2.cell? ⟨w1.heap.size, 2, none⟩ = some (.int .i64 792) := Owned.cell HO2.out 2
  clear hb2
  go_wp2_with fail
  go_at_call 12
  refine (c3 _).mono ?_
  rintro e w3 ⟨rfl, hb3⟩
  have HO3 := Lib.hid (HO2.out.under hb3)
  clear g0 g1 g2
  have g0 : w3.cell? ⟨w1.heap.size, 0, none⟩ = some (.int .i64 1000) := Owned.cell HO3.out 0
  have g1 : w3.cell? ⟨w1.heap.size, 1, none⟩ = some (.int .i64 10) := Owned.cell HO3.out 1
  have g2 : w3.cell? ⟨w1.heap.size, 2, none⟩ = some (.int .i64 792) := Owned.cell HO3.out 2
  clear hb3
  go_wp2_with fail
  go_at_call 13
  refine (c4 _).mono ?_
  rintro e w4 ⟨rfl, hb4⟩
  go_wp2_with fail
  go_at_call 9
  refine (c5 _).mono ?_
  rintro e w5 ⟨rfl, hb5⟩
  go_wp2_with fail
  go_at_call 9
  refine (c6 _).mono ?_
  rintro e w6 ⟨rfl, hb6⟩
  go_wp2_with fail
  go_ret
  exact ⟨rfl, (((HO3.out.under hb4).under hb5).under hb6).below⟩
end Go.Proofs.Ytdkkhhlkgjnicaa
