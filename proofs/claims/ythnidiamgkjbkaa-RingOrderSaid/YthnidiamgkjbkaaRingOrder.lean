/- RingOrder: for every size and every row of at most 300 calls, what is taken of a ring is what was offered and not lost, in its order: the walk. -/
import Derived.Test.YthnidiamgkjbkaaRingSmall
namespace Go.Proofs.Ythnidiamgkjbkaa
open Go.RowKit Go.Sep
set_option maxHeartbeats 800000 in
theorem order_long (size : Int) (v : Value) (l : List Int) (w0 : World) (hv : Reads w0 v l) (hlong : 300 < l.length) : Calls Try.prog 4 #[.int .i64 size, v] w0 fun e w' => e = .returned (.bool true) ∧ Below w0.heap.size w0 w' := by
  obtain ⟨hl, A, c, rfl, _⟩ := hv
  go_enter Try.func4, Try.ntmps4
  go_wp2_with fail
  go_at_call 8
  refine (small_calls w0).mono ?_
  rintro e w1 ⟨rfl, hb1⟩
  have hO1 := (Owned.nil w0).under hb1
  go_wp2_with fail
  go_at_call 9
  refine (ring_new size hO1).mono ?_
  rintro e w2 ⟨g, r, rfl, hr, hO2⟩
  go_wp2_with fail
  go_ret
  exact ⟨rfl, hO2.below⟩

/-- what holds at the head of a round -/
def OrderRel (w0 : World) (F : Own) (g n k : Nat) (vin vout : Value) (offers : Int) (w : World) : Prop :=
  ∃ (L IN OUT : List Int) (lost : Nat) (r rin rout : Own), Row 3 1 vin IN.length (ints IN) rin ∧ Row 3 1 vout OUT.length (ints OUT) rout ∧ Ring g n L lost r ∧ Owned w0 w (rin ++ (rout ++ (r ++ F))) ∧
    IN = OUT ++ L ∧ offers = (OUT.length + L.length + lost : Nat) ∧ OUT.length + L.length + lost ≤ k
set_option maxHeartbeats 1600000 in
set_option maxRecDepth 100000 in
theorem order_walk (size : Int) (v : Value) (l : List Int) (w0 : World) (hv : Reads w0 v l) (hshort : l.length ≤ 300) : Calls Try.prog 4 #[.int .i64 size, v] w0 fun e w' => e = .returned (.bool true) ∧ Below w0.heap.size w0 w' := by
  have HV := Lib.hid hv
  obtain ⟨hl, A, c, rfl, hc⟩ := hv
  generalize hN : l.length = N at *
  have HN := Lib.hid hN
  clear hN
  have HC := Lib.hid hc
  clear hc
  go_enter Try.func4, Try.ntmps4
  go_wp2_with fail
  go_at_call 8
  refine (small_calls w0).mono ?_
  rintro e w1 ⟨rfl, hb1⟩
  obtain ⟨F, hO1⟩ : ∃ F, Owned w0 w1 F := ⟨[], (Owned.nil w0).under hb1⟩
  go_wp2_with fail
  go_at_call 9
  refine (ring_new size hO1).mono ?_
  rintro e w2 ⟨g, r, rfl, hr, hO2⟩
  generalize ringSize size = n at *
  go_wp2_with fail
  go_loopw [7, 8, 9, 10] (fun x7 x8 x9 x10 wr => ∃ k : Nat, k ≤ N ∧ x10 = .int .i64 k ∧ ∃ o : Int, x9 = .int .i64 o ∧ Hid (OrderRel w0 F g n k x7 x8 o wr)) (fun _ _ _ x10 _ => N - (intOf x10).toNat)
  case atStart => exact ⟨0, Nat.zero_le _, rfl, 0, rfl, [], [], [], 0, r, [], [], Row.nil _ _, Row.nil _ _, hr, hO2, rfl, rfl, Nat.le_refl _⟩
  case round =>
    obtain ⟨k, hk, rfl, o, rfl, hrel⟩ := hrel
    obtain ⟨L, IN, OUT, lost, r, rin, rout, hrin, hrout, hr, hO, hIN, rfl, hle⟩ := hrel.out
    obtain ⟨Ao, co, rfl⟩ := hrout.slice
    have hLn := hr.len_le
    have hINl : IN.length = OUT.length + L.length := by rw [hIN, List.length_append]
    have hm1 : IN.length + 1 ≤ maxLen := by unfold maxLen; omega
    have hm2 : (IN.length + 1) * 8 ≤ 140737488355328 := by omega
    have hm3 : OUT.length + L.length ≤ maxLen := by unfold maxLen; omega
    have hm4 : (OUT.length + L.length) * 8 ≤ 140737488355328 := by omega
    clear hINl
    by_cases hlt : k < N
    · obtain ⟨b, off, rfl, hcell⟩ := HC.out (by omega)
      have hc0 := hcell k hlt
      have hbl := World.block_lt_of_cell? _ _ hc0
      have hcx : ∀ W l', Owned w0 W l' → W.cell? ⟨b, off + k, none⟩ = some (.int .i64 (l.getD k 0)) := fun W l' h => (h.below.cell (p := ⟨b, off + k, none⟩) hbl).trans hc0
      clear hcell hc0
      generalize l.getD k 0 = x at *
      have HX := Lib.hid hcx
      clear hcx
      have cx := HX.out _ _ hO
      have HIN := Lib.hid hIN
      clear hIN hrel HC
      by_cases hx : 0 ≤ x
      · go_wp2_with fail
        go_at_call 16
        refine (ring_offer x hr (by omega) hO.third).mono ?_
        rintro e w3 ⟨r3, rfl, hr3, hO3⟩
        have cx3 := HX.out _ _ hO3
        by_cases hroom : L.length < n
        · rw [if_pos hroom, if_pos hroom] at hr3
          have hO3' := hO3.comm
          go_wp2_with (at_builtin; refine append_one rfl (.tmp 47) (.tmp 52) 22 rfl 3 (.int .i64 0) 8 Try.underlying22 info3 rfl _ IN.length _ rin _ _ rfl hrin hO3' rfl rfl hm1 hm2 ?_)
          intro vin2 rin2 w4 hrin2 hO4
          have hO4' := hO4.comm
          go_wp2_with fail
          go_at_call 18
          refine (ring_len_calls hr3 hO4').mono ?_
          rintro e w5 ⟨rfl, rfl⟩
          go_wp2_with fail
          go_at_call 19
          refine (ring_lost_calls hr3 hO4').mono ?_
          rintro e w5 ⟨rfl, rfl⟩
          go_wp2_with fail
          go_at_call 18
          refine (ring_len_calls hr3 hO4').mono ?_
          rintro e w5 ⟨rfl, rfl⟩
          go_wp2_with fail
          go_at_call 20
          refine (ring_size_calls hr3 hO4').mono ?_
          rintro e w5 ⟨rfl, rfl⟩
          go_wp2_with fail
          go_roundw
          case rel => exact ⟨k + 1, by omega, by go_num, _, rfl, L ++ [x], IN ++ [x], OUT, lost, r3, rin2, rout, by rw [List.length_append]; simpa [ints] using hrin2, hrout, hr3, hO4.perm (List.Perm.append_left _ (perm2 _ _ _)), by rw [HIN.out, List.append_assoc], by rw [List.length_append]; go_num, by rw [List.length_append, List.length_singleton]; omega⟩
          case measure => simp [intOf]; omega
        · rw [if_neg hroom, if_neg hroom] at hr3
          have hd : decide (L.length < n) = false := decide_eq_false hroom
          go_wp2_with fail
          go_at_call 18
          refine (ring_len_calls hr3 hO3).mono ?_
          rintro e w4 ⟨rfl, rfl⟩
          go_wp2_with fail
          go_at_call 19
          refine (ring_lost_calls hr3 hO3).mono ?_
          rintro e w4 ⟨rfl, rfl⟩
          go_wp2_with fail
          go_at_call 18
          refine (ring_len_calls hr3 hO3).mono ?_
          rintro e w4 ⟨rfl, rfl⟩
          go_wp2_with fail
          go_at_call 20
          refine (ring_size_calls hr3 hO3).mono ?_
          rintro e w4 ⟨rfl, rfl⟩
          go_wp2_with fail
          go_roundw
          case rel => exact ⟨k + 1, by omega, by go_num, _, rfl, L, IN, OUT, lost + 1, r3, rin, rout, hrin, hrout, hr3, hO3.back3, HIN.out, by go_num, by omega⟩
          case measure => simp [intOf]; omega
      · have hx' : decide (0 ≤ x) = false := decide_eq_false hx
        by_cases hev : bits .and .i64 x 1 = 0
        · have hev' : (bits .and .i64 x 1 == 0) = true := by rw [hev]; rfl
          clear hev
          go_wp2_with fail
          go_at_call 14
          refine (ring_drain hr hO.third).mono ?_
          rintro e w3 ⟨v1, r1, r3, rfl, hrow, hr3, hO3⟩
          have hO3' : Owned w0 w3 (rout ++ (r1 ++ (r3 ++ (rin ++ F)))) := hO3.fourth
          go_wp2_with (at_builtin; refine append_rows rfl (.tmp 60) (.tmp 62) 22 rfl 3 (.int .i64 0) 1 8 Try.underlying22 info3 rfl (by decide) _ _ OUT.length L.length _ _ rout r1 _ rfl rfl hrout hrow hO3' (ints_one _) hm3 hm4 ?_)
          intro vout2 rout2 w4 hrout2 hO4
          obtain ⟨Ao2, co2, rfl⟩ := hrout2.slice
          have hO4' := hO4.third
          go_wp2_with fail
          go_at_call 18
          refine (ring_len_calls hr3 hO4').mono ?_
          rintro e w5 ⟨rfl, rfl⟩
          go_wp2_with fail
          go_at_call 19
          refine (ring_lost_calls hr3 hO4').mono ?_
          rintro e w5 ⟨rfl, rfl⟩
          go_wp2_with fail
          go_at_call 18
          refine (ring_len_calls hr3 hO4').mono ?_
          rintro e w5 ⟨rfl, rfl⟩
          go_wp2_with fail
          go_at_call 20
          refine (ring_size_calls hr3 hO4').mono ?_
          rintro e w5 ⟨rfl, rfl⟩
          go_wp2_with fail
          go_roundw
          case rel =>
            refine ⟨k + 1, by omega, by go_num, _, rfl, [], IN, OUT ++ L, lost, r3, rin, rout2, hrin, by rw [List.length_append]; simpa [ints] using hrout2, hr3, hO4.comm.drop_.third, by rw [HIN.out, List.append_nil], by rw [List.length_append]; go_num, by rw [List.length_append, List.length_nil]; omega⟩
          case measure => simp [intOf]; omega
        · have hev' : (bits .and .i64 x 1 == 0) = false := by simpa using hev
          clear hev
          cases L with
          | nil =>
            go_wp2_with fail
            go_at_call 11
            refine (ring_take hr hO.third).mono ?_
            rintro e w3 ⟨r3, rfl, hr3, hO3⟩
            go_wp2_with fail
            go_at_call 18
            refine (ring_len_calls hr3 hO3).mono ?_
            rintro e w4 ⟨rfl, rfl⟩
            go_wp2_with fail
            go_at_call 19
            refine (ring_lost_calls hr3 hO3).mono ?_
            rintro e w4 ⟨rfl, rfl⟩
            go_wp2_with fail
            go_at_call 18
            refine (ring_len_calls hr3 hO3).mono ?_
            rintro e w4 ⟨rfl, rfl⟩
            go_wp2_with fail
            go_at_call 20
            refine (ring_size_calls hr3 hO3).mono ?_
            rintro e w4 ⟨rfl, rfl⟩
            go_wp2_with fail
            go_roundw
            case rel => exact ⟨k + 1, by omega, by go_num, _, rfl, [], IN, OUT, lost, r3, rin, rout, hrin, hrout, hr3, hO3.back3, HIN.out, by go_num, by simp only [List.length_nil] at hle ⊢; omega⟩
            case measure => simp [intOf]; omega
          | cons y L =>
            have hlc : (y :: L).length = L.length + 1 := rfl
            rw [hlc] at hm3 hm4 hle
            go_wp2_with fail
            go_at_call 11
            refine (ring_take hr hO.third).mono ?_
            rintro e w3 ⟨r3, rfl, hr3, hO3⟩
            have hO3' : Owned w0 w3 (rout ++ (r3 ++ (rin ++ F))) := hO3.third
            have hm5 : OUT.length + 1 ≤ maxLen := by omega
            have hm6 : (OUT.length + 1) * 8 ≤ 140737488355328 := by omega
            go_wp2_with (at_builtin; refine append_one rfl (.tmp 70) (.tmp 72) 22 rfl 3 (.int .i64 0) 8 Try.underlying22 info3 rfl _ OUT.length _ rout _ _ rfl hrout hO3' rfl rfl hm5 hm6 ?_)
            intro vout2 rout2 w4 hrout2 hO4
            obtain ⟨Ao2, co2, rfl⟩ := hrout2.slice
            have hO4' := hO4.comm
            have hr3' : Ring g n L lost r3 := hr3
            go_wp2_with fail
            go_at_call 18
            refine (ring_len_calls hr3' hO4').mono ?_
            rintro e w5 ⟨rfl, rfl⟩
            go_wp2_with fail
            go_at_call 19
            refine (ring_lost_calls hr3' hO4').mono ?_
            rintro e w5 ⟨rfl, rfl⟩
            go_wp2_with fail
            go_at_call 18
            refine (ring_len_calls hr3' hO4').mono ?_
            rintro e w5 ⟨rfl, rfl⟩
            go_wp2_with fail
            go_at_call 20
            refine (ring_size_calls hr3' hO4').mono ?_
            rintro e w5 ⟨rfl, rfl⟩
            go_wp2_with fail
            go_roundw
            case rel => exact ⟨k + 1, by omega, by go_num, _, rfl, L, IN, OUT ++ [y], lost, r3, rin, rout2, hrin, by rw [List.length_append]; simpa [ints] using hrout2, hr3', hO4.third, by rw [HIN.out, List.append_assoc]; rfl, by rw [List.length_append, List.length_singleton]; first | go_num | omega, by rw [List.length_append, List.length_singleton]; omega⟩
            case measure => simp [intOf]; omega
    · have HIN := Lib.hid hIN
      clear hIN hrel HC
      go_wp2_with fail
      go_at_call 14
      refine (ring_drain hr hO.third).mono ?_
      rintro e w3 ⟨v1, r1, r3, rfl, hrow, hr3, hO3⟩
      have hO3' : Owned w0 w3 (rout ++ (r1 ++ (r3 ++ (rin ++ F)))) := hO3.fourth
      go_wp2_with (at_builtin; refine append_rows rfl (.tmp 91) (.tmp 93) 22 rfl 3 (.int .i64 0) 1 8 Try.underlying22 info3 rfl (by decide) _ _ OUT.length L.length _ _ rout r1 _ rfl rfl hrout hrow hO3' (ints_one _) hm3 hm4 ?_)
      intro vout2 rout2 w4 hrout2 hO4
      have hO4' := hO4.third
      have hin : Reads w4 u7 IN := reads_of_row hrin (by omega) hO4.fourth
      have hout : Reads w4 vout2 (OUT ++ L) := reads_of_row (by rw [List.length_append]; simpa [ints] using hrout2) (by rw [List.length_append]; omega) hO4
      have hd : decide (IN = OUT ++ L) = true := decide_eq_true HIN.out
      go_wp2_with fail
      go_at_call 13
      refine (ints_calls _ _ IN (OUT ++ L) _ hin hout).mono ?_
      rintro e w5 ⟨rfl, m, rfl⟩
      rw [hd]
      have hO5 := hO4'.drewN m
      go_wp2_with fail
      go_at_call 18
      refine (ring_len_calls hr3 hO5).mono ?_
      rintro e w6 ⟨rfl, rfl⟩
      go_wp2_with fail
      go_ret
      exact ⟨rfl, hO5.below⟩
end Go.Proofs.Ythnidiamgkjbkaa
