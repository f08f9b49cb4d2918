/- The statements of layer 2 against the document's answer: the walks. -/
import Derived.Test.YtfjnimlmedmdhaaNibSmall
import Derived.Test.YtfjnimlmedmdhaaArrEq
namespace Go.Proofs.Ytfjnimlmedmdhaa
open Go.RowKit NibPure Go.Sep
theorem plain_int : Try.prog.plainKey 3 = true := by kernel_rfl
theorem cells_int : Try.prog.cellsOf 3 = 1 := by kernel_rfl
theorem has_int : (Try.prog.info? 3).isSome = true := by kernel_rfl
theorem arr_same (d : Nat → Nat) (w : World) : (Op.equalIn 10000 28 (.agg (arrC d)) (.agg (arrC d))).run Try.prog w = .ok true w := by
  obtain ⟨i, hi⟩ := Option.isSome_iff_exists.1 has_int
  exact ArrEq.eq_same w und_arr Try.underlying3 hi plain_int cells_int _ (fun j hj => ⟨_, arrC_get d j hj⟩)
set_option maxHeartbeats 1600000 in
theorem tells_walk (x : Nat) (hx : x < 18446744073709551616) (i n : Int) : TellsB 3 #[.int .u64 x, .int .i64 i, .int .i64 n] (.bool true) := by
  intro w
  have c1 := inc_any x hx i
  have c2 := rinc_any x hx i
  have c3 := get_any x hx i
  have c4 := rget_any x hx i
  have c5 := set_any x hx i n
  have c6 := rset_any x hx i n
  have c7 := fun w => all_calls x hx w
  have c8 := ref_all x hx
  generalize incN x i = a at *
  generalize incB x i = b at *
  generalize getN x i = g at *
  generalize setN x i n = s at *
  have hsame := fun w => arr_same (dg x) w
  generalize arrC (dg x) = l at *
  go_enter Try.func3, Try.ntmps3
  go_wp2_with fail
  go_at_call 9
  refine (small_calls _).mono ?_
  rintro e w1 ⟨rfl, hb1⟩
  go_wp2_with fail
  go_at_call 10
  refine (c1 _).mono ?_
  rintro e w2 ⟨rfl, rfl⟩
  go_wp2_with fail
  go_at_call 11
  refine (c2 _).mono ?_
  rintro e w2 ⟨rfl, hb2⟩
  go_wp2_with fail
  go_at_call 12
  refine (c3 _).mono ?_
  rintro e w3 ⟨rfl, rfl⟩
  go_wp2_with fail
  go_at_call 13
  refine (c4 _).mono ?_
  rintro e w3 ⟨rfl, rfl⟩
  go_wp2_with fail
  go_at_call 14
  refine (c5 _).mono ?_
  rintro e w3 ⟨rfl, hb3⟩
  go_wp2_with fail
  go_at_call 15
  refine (c6 _).mono ?_
  rintro e w4 ⟨rfl, hb4⟩
  go_wp2_with fail
  go_at_call 16
  refine (c7 _).mono ?_
  rintro e w5 ⟨rfl, hb5⟩
  go_wp2_with fail
  go_at_call 17
  refine (c8 _).mono ?_
  rintro e w6 ⟨rfl, hb6⟩
  go_wp2_with fail
  go_ret
  have m1 := hb1.trans (hb2.mono hb1.size)
  have m2 := m1.trans (hb3.mono m1.size)
  have m3 := m2.trans (hb4.mono m2.size)
  have m4 := m3.trans (hb5.mono m3.size)
  exact ⟨rfl, m4.trans (hb6.mono m4.size)⟩
set_option maxHeartbeats 1600000 in
theorem halves_walk (x : Nat) (hx : x < 18446744073709551616) : TellsB 4 #[.int .u64 x] (.bool true) := by
  intro w
  have c1 := half_any x hx
  have c2 := rhalf_any x hx
  have c3 := fun w => sum_calls x hx w
  have c4 := ref_sum x hx
  have c5 := odd_calls x hx
  have c6 := ref_odd x hx
  generalize halfN x = a at *
  generalize sm x 16 = s at *
  generalize od x 16 = o at *
  go_enter Try.func4, Try.ntmps4
  go_wp2_with fail
  go_at_call 9
  refine (small_calls _).mono ?_
  rintro e w1 ⟨rfl, hb1⟩
  go_wp2_with fail
  go_at_call 18
  refine (c1 _).mono ?_
  rintro e w2 ⟨rfl, rfl⟩
  go_wp2_with fail
  go_at_call 19
  refine (c2 _).mono ?_
  rintro e w2 ⟨rfl, hb2⟩
  go_wp2_with fail
  go_at_call 20
  refine (c3 _).mono ?_
  rintro e w3 ⟨rfl, hb3⟩
  go_wp2_with fail
  go_at_call 21
  refine (c4 _).mono ?_
  rintro e w4 ⟨rfl, rfl⟩
  go_wp2_with fail
  go_at_call 22
  refine (c5 _).mono ?_
  rintro e w4 ⟨rfl, rfl⟩
  go_wp2_with fail
  go_at_call 23
  refine (c6 _).mono ?_
  rintro e w4 ⟨rfl, rfl⟩
  go_wp2_with fail
  go_ret
  exact ⟨rfl, hb1.trans ((hb2.trans (hb3.mono hb2.size)).mono hb1.size)⟩
end Go.Proofs.Ytfjnimlmedmdhaa
