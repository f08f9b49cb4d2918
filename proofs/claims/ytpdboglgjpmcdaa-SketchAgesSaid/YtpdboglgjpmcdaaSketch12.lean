/- The statements of layer 3: SketchAlone, the walk. -/
import Derived.Test.YtpdboglgjpmcdaaSketch11
namespace Go.Proofs.Ytpdboglgjpmcdaa
open Go.RowKit NibPure Go.Sep
set_option maxHeartbeats 800000 in
theorem alone_out (cap seed key n : Int) (w0 : World) (h1 : 1024 < cap ∨ (cap ≤ 1024 ∧ n < 0) ∨ (cap ≤ 1024 ∧ 0 ≤ n ∧ 40 < n)) : Calls Try.prog 6 #[.int .i64 cap, .int .i64 seed, .int .i64 key, .int .i64 n] w0 fun e w' => e = .returned (.bool true) ∧ Below w0.heap.size w0 w' := by
  rcases h1 with h1 | ⟨h1, h2⟩ | ⟨h1, h2, h3⟩
  all_goals
    go_enter Try.func6, Try.ntmps6
    go_wp2_with fail
    go_at_call 7
    refine (small_calls w0).mono ?_
    rintro e w1 ⟨rfl, hb1⟩
    go_wp2_with fail
    go_ret
    exact ⟨rfl, hb1⟩
def AloneRel (w0 : World) (F : Own) (g : Nat) (seed : Int) (n : Nat) (p : Nat → Nat) (k : Nat) (w : World) : Prop := ∃ r, SkAt g seed n (min k 15) (aloneS p k) r ∧ Owned w0 w (r ++ F)
/-- the sum of the first counters -/
def sumTo (q v : Nat) (k : Nat) : Nat := if q < k then v else 0
theorem sumTo_succ (p : Nat → Nat) (m k : Nat) : sumTo (p 1) (min m 15) (k + 1) = sumTo (p 1) (min m 15) k + aloneS p m 1 k := by
  unfold sumTo aloneS
  by_cases e : k = p 1
  · rw [if_pos (by omega), if_neg (by omega), if_pos ⟨by omega, e⟩, Nat.zero_add]
  · rw [if_neg (c := 1 < 4 ∧ k = p 1) (fun h => e h.2)]
    by_cases h : p 1 < k
    · rw [if_pos (by omega), if_pos h]; rfl
    · rw [if_neg (by omega), if_neg h]
set_option maxHeartbeats 3200000 in
set_option maxRecDepth 100000 in
theorem alone_walk (cap seed key : Int) (M : Nat) (w0 : World) (h1 : cap ≤ 1024) (hM : M ≤ 40) : Calls Try.prog 6 #[.int .i64 cap, .int .i64 seed, .int .i64 key, .int .i64 (M : Int)] w0 fun e w' => e = .returned (.bool true) ∧ Below w0.heap.size w0 w' := by
  have hd := fun (w : World) (h : Owned w0 w ([] : Own)) => s_new cap seed h
  have hn := wordN_16 cap
  obtain ⟨n, hnn⟩ : ∃ n, wordN cap = n := ⟨_, rfl⟩
  rw [hnn] at hd hn
  obtain ⟨_, n1, n2⟩ := hn
  obtain ⟨p, hp⟩ : ∃ p, plS seed key (16 * n) = p := ⟨_, rfl⟩
  have hp1 : p 1 < 16 * n := by rw [← hp]; exact plS_lt seed key (by omega) 1
  have HP1 := Lib.hid hp1
  have HP := Lib.hid hp
  have hmin := min_if
  have E0 := Lib.hid (aloneS_zero p).symm
  clear hp hp1 hnn
  go_enter Try.func6, Try.ntmps6
  go_wp2_with fail
  go_at_call 7
  refine (small_calls w0).mono ?_
  rintro e w1 ⟨rfl, hb1⟩
  go_wp2_with fail
  go_at_call 8
  refine (hd _ ((Owned.nil w0).under hb1)).mono ?_
  rintro e w2 ⟨g, r, rfl, hr, hO2⟩
  obtain ⟨F, hO2⟩ : ∃ F, Owned w0 w2 (r ++ F) := ⟨[], hO2⟩
  rw [E0.out] at hr
  have HO2 := Lib.hid (show AloneRel w0 F g seed n p 0 w2 from ⟨r, hr, hO2⟩)
  clear hr hO2 hd
  go_wp2_with fail
  go_loopw [11] (fun x11 wr => ∃ k : Nat, k ≤ M ∧ x11 = .int .i64 (((k + 1 : Nat)) : Int) ∧ Hid (AloneRel w0 F g seed n p k wr)) (fun x11 _ => M + 1 - (intOf x11).toNat)
  case atStart => exact ⟨0, Nat.zero_le _, rfl, HO2⟩
  case round =>
    clear HO2
    obtain ⟨k, hk, rfl, hrel⟩ := hrel
    obtain ⟨r1, hr1, hO⟩ := hrel.out
    clear hrel
    by_cases hlt : k < M
    · have hm := aloneS_min p (k + 1)
      have HM := Lib.hid hm
      clear hm
      have t0 : decide (k + 1 ≤ M) = true := decide_eq_true (by omega)
      have t2 : ((((min (k + 1) 15 : Nat)) : Int) != min ((k : Int) + 1) 15) = false := by rw [bne_eq_false_iff_eq]; omega
      by_cases h15 : k < 15
      · have t1 : decide ((k : Int) + 1 ≤ 15) = true := decide_eq_true (by omega)
        have t1' : decide (k + 1 ≤ 15) = true := decide_eq_true (by omega)
        have A := Lib.hid (decide_eq_true h15)
        clear t2
        have hmm : min (k + 1) 15 = k + 1 := by omega
        obtain ⟨mm, hm2⟩ : ∃ mm, k + 1 = mm := ⟨_, rfl⟩
        have MM := Lib.hid (hmm.trans hm2)
        have M2 := Lib.hid hm2
        have t2 : (((mm : Nat) : Int) != (k : Int) + 1) = false := by rw [bne_eq_false_iff_eq]; omega
        clear hmm hm2
        go_wp2_with fail
        go_at_call 12
        refine (s_add_alone key k (more := true) HP.out A.out hr1 hO).mono ?_
        rintro e w3 ⟨rfl, r3, hr3, hO3⟩
        clear hr1 hO
        go_wp2_with fail
        go_at_call 14
        refine (s_count key (m := mm) HP.out (by rw [HM.out, MM.out]) hr3 hO3).mono ?_
        rintro e w4 ⟨rfl, hO4⟩
        rw [MM.out] at hr3
        go_wp2_with fail
        go_at_call 18
        refine (s_samples hr3 hO4).mono ?_
        rintro e w5 ⟨rfl, rfl⟩
        have HR3 := Lib.hid hr3
        have HO4 := Lib.hid hO4
        clear hr3 hO3 hO4
        go_wp2_with fail
        go_roundw
        case rel => exact ⟨k + 1, by omega, by go_num, r3, by rw [MM.out]; exact HR3.out, HO4.out⟩
        case measure => simp [intOf]; omega
      · have t1 : decide ((k : Int) + 1 ≤ 15) = false := decide_eq_false (by omega)
        have t1' : decide (k + 1 ≤ 15) = false := decide_eq_false (by omega)
        have A := Lib.hid (decide_eq_false h15)
        generalize hmm : min (k + 1) 15 = mm at *
        have MM := Lib.hid hmm
        clear hmm
        go_wp2_with fail
        go_at_call 12
        refine (s_add_alone key k (more := false) HP.out A.out hr1 hO).mono ?_
        rintro e w3 ⟨rfl, r3, hr3, hO3⟩
        clear hr1 hO
        go_wp2_with fail
        go_at_call 14
        refine (s_count key (m := mm) HP.out (by rw [HM.out]) hr3 hO3).mono ?_
        rintro e w4 ⟨rfl, hO4⟩
        rw [MM.out] at hr3
        go_wp2_with fail
        go_at_call 18
        refine (s_samples hr3 hO4).mono ?_
        rintro e w5 ⟨rfl, rfl⟩
        have HR3 := Lib.hid hr3
        have HO4 := Lib.hid hO4
        clear hr3 hO3 hO4
        go_wp2_with fail
        go_roundw
        case rel => exact ⟨k + 1, by omega, by go_num, r3, by rw [MM.out]; exact HR3.out, HO4.out⟩
        case measure => simp [intOf]; omega
    · obtain rfl : k = M := by omega
      have t0 : decide (k + 1 ≤ k) = false := decide_eq_false (by omega)
      go_wp2_with fail
      go_at_call 17
      refine (s_row 1 (K := 1) rfl (by omega) hr1 hO).mono ?_
      rintro e w9 ⟨v, q, rfl, hrow, hO9⟩
      have hrd := reads_of_row (l := rowN (aloneS p k) 1 (16 * n)) (by rw [rowN_len]; exact hrow) (by rw [rowN_len]; omega) hO9
      rw [Reads, rowN_len] at hrd
      obtain ⟨_, A, c, rfl, hcell⟩ := hrd
      have HB := Lib.hid hO9.below
      have hN : 16 * n ≤ 65536 := by omega
      have HC := Lib.hid (show 0 < 16 * n → ∃ b o, A = some ⟨b, o, none⟩ ∧ ∀ i, i < 16 * n → w9.cell? ⟨b, o + i, none⟩ = some (.int .i64 ((aloneS p k 1 i : Nat) : Int)) from fun h0 => by
        obtain ⟨b, o, e, h⟩ := hcell h0
        exact ⟨b, o, e, fun i hi => by rw [h i hi, rowN_get _ _ _ _ hi]⟩)
      have SU := Lib.hid (sumTo_succ p k)
      have S0 := Lib.hid (show sumTo (p 1) (min k 15) 0 = 0 from if_neg (by omega))
      have S1 := Lib.hid (show sumTo (p 1) (min k 15) (16 * n) = min k 15 from if_pos HP1.out)
      have sle : ∀ i, sumTo (p 1) (min k 15) i ≤ 15 := fun i => by unfold sumTo; split <;> omega
      have SL := Lib.hid sle
      have al : ∀ i, aloneS p k 1 i ≤ 15 := fun i => by unfold aloneS; split <;> omega
      have AL := Lib.hid al
      clear hr1 hO hrow hO9 hcell sle al
      generalize hW : 16 * n = W at *
      have HW := Lib.hid hW
      clear hW
      obtain ⟨s, hs⟩ : ∃ s : Nat → Nat, s = sumTo (p 1) (min k 15) := ⟨_, rfl⟩
      rw [← hs] at SU S0 S1 SL
      clear hs
      obtain ⟨f, hf⟩ : ∃ f : Nat → Nat, f = aloneS p k 1 := ⟨_, rfl⟩
      rw [← hf] at SU HC AL
      clear hf
      go_wp2_with fail
      go_loop [14, 16] (fun x14 x16 => ∃ i : Nat, i ≤ W ∧ x16 = .int .i64 i ∧ x14 = .int .i64 (s i : Nat)) (fun _ x16 => W - (intOf x16).toNat)
      case atStart => exact ⟨0, Nat.zero_le _, rfl, by rw [S0.out]; rfl⟩
      case round =>
        obtain ⟨i, hi, rfl, rfl⟩ := hrel
        by_cases hli : i < W
        · obtain ⟨b, off, rfl, hcell⟩ := HC.out (by omega)
          have cx := hcell i hli
          have su := SU.out i
          have sl := SL.out i
          have al := AL.out i
          have SU2 := Lib.hid su
          clear hcell HC su
          generalize f i = x at *
          generalize s i = si at *
          go_wp2_with fail
          go_round
          case rel => exact ⟨i + 1, by omega, by go_num, by rw [SU2.out]; go_num⟩
          case measure => simp [intOf]; omega
        · obtain rfl : i = W := by omega
          rw [S1.out]
          have t5 : (((((min k 15 : Nat)) : Int)) == min (k : Int) 15) = true := by rw [beq_iff_eq]; omega
          generalize min k 15 = mk at *
          go_wp2_with fail
          go_ret
          exact ⟨rfl, HB.out⟩
end Go.Proofs.Ytpdboglgjpmcdaa
