/- The statements of layer 3: SketchCounts, the walk. -/
import Derived.Test.YtpdboglgjpmcdaaSketch10
namespace Go.Proofs.Ytpdboglgjpmcdaa
open Go.RowKit NibPure Go.Sep
/-- how often a number is among the first ones -/
def ct (x : Int) (l : List Int) : Nat → Nat
  | 0 => 0
  | k + 1 => ct x l k + if l.getD k 0 = x then 1 else 0
theorem ct_le (x : Int) (l : List Int) : ∀ k, ct x l k ≤ k
  | 0 => Nat.le_refl _
  | k + 1 => by have := ct_le x l k; rw [ct]; split <;> omega
theorem max_if : ∀ x y : Int, (if x < y then y else x) = max x y := fun x y => by split <;> omega
theorem min_if : ∀ x y : Int, (if x < y then x else y) = min y x := fun x y => by split <;> omega
set_option maxHeartbeats 800000 in
theorem counts_out (seed : Int) (v : Value) (l : List Int) (w0 : World) (hv : Reads w0 v l) (h1 : 300 < l.length) : Calls Try.prog 4 #[.int .i64 seed, v] w0 fun e w' => e = .returned (.bool true) ∧ Below w0.heap.size w0 w' := by
  obtain ⟨hl, A, c, rfl, _⟩ := hv
  go_enter Try.func4, Try.ntmps4
  go_wp2_with fail
  go_at_call 7
  refine (small_calls w0).mono ?_
  rintro e w1 ⟨rfl, hb1⟩
  go_wp2_with fail
  go_at_call 8
  refine (s_new 64 seed ((Owned.nil w0).under hb1)).mono ?_
  rintro e w2 ⟨g, r, rfl, hr, hO2⟩
  go_wp2_with fail
  go_ret
  exact ⟨rfl, hO2.below⟩
def CntRel (w0 : World) (F : Own) (g : Nat) (seed : Int) (l : List Int) (P : Int → Nat → Nat) (k : Nat) (w : World) : Prop :=
  ∃ S r N, SkAt g seed 4 N S r ∧ Owned w0 w (r ++ F) ∧ Lo S ∧ N ≤ k ∧ ∀ x, min (ct x l k) 15 ≤ mnS S (P x) 4
def SkOwned (w0 : World) (F : Own) (g : Nat) (seed : Int) (n N : Nat) (S : Nat → Nat → Nat) (w : World) : Prop := ∃ r, SkAt g seed n N S r ∧ Owned w0 w (r ++ F)
set_option maxHeartbeats 3200000 in
set_option maxRecDepth 100000 in
theorem counts_walk (seed : Int) (v : Value) (l : List Int) (w0 : World) (hv : Reads w0 v l) (hshort : l.length ≤ 300) : Calls Try.prog 4 #[.int .i64 seed, v] w0 fun e w' => e = .returned (.bool true) ∧ Below w0.heap.size w0 w' := by
  obtain ⟨hl, A, c, rfl, hc⟩ := hv
  generalize hN : l.length = N at *
  have HN := Lib.hid hN
  clear hN
  have HC := Lib.hid hc
  clear hc
  have hw4 : wordN 64 = 4 := by decide
  have hd := fun (w : World) (h : Owned w0 w ([] : Own)) => s_new 64 seed h
  rw [hw4] at hd
  obtain ⟨P, hP⟩ : ∃ P : Int → Nat → Nat, ∀ x, plS seed x (16 * 4) = P x := ⟨_, fun _ => rfl⟩
  have HP := Lib.hid hP
  have hmin := min_if
  clear hP hw4
  go_enter Try.func4, Try.ntmps4
  go_wp2_with fail
  go_at_call 7
  refine (small_calls w0).mono ?_
  rintro e w1 ⟨rfl, hb1⟩
  go_wp2_with fail
  go_at_call 8
  refine (hd _ ((Owned.nil w0).under hb1)).mono ?_
  rintro e w2 ⟨g, r, rfl, hr, hO2⟩
  obtain ⟨F, hO2⟩ : ∃ F, Owned w0 w2 (r ++ F) := ⟨[], hO2⟩
  clear hd
  have HO2 := Lib.hid (show CntRel w0 F g seed l P 0 w2 from ⟨_, r, 0, hr, hO2, fun _ _ => Nat.zero_le _, Nat.le_refl _, fun x => by rw [ct]; omega⟩)
  clear hr hO2
  go_wp2_with fail
  go_loopw [7] (fun x7 wr => ∃ k : Nat, k ≤ N ∧ x7 = .int .i64 k ∧ Hid (CntRel w0 F g seed l P k wr)) (fun x7 _ => N - (intOf x7).toNat)
  case atStart => exact ⟨0, Nat.zero_le _, rfl, HO2⟩
  case round =>
    clear HO2
    obtain ⟨k, hk, rfl, hrel⟩ := hrel
    obtain ⟨S, r1, N1, hr1, hO, hlo, hN1, hall⟩ := hrel.out
    by_cases hlt : k < N
    · obtain ⟨b, off, rfl, hcell⟩ := HC.out (by omega)
      have hcx : ∀ m, m < N → ∀ W (l' : Own), Owned w0 W l' → W.cell? ⟨b, off + m, none⟩ = some (.int .i64 (l.getD m 0)) := fun m hm W l' h => (h.below.cell (p := ⟨b, off + m, none⟩) (World.block_lt_of_cell? _ _ (hcell m hm))).trans (hcell m hm)
      have HX := Lib.hid hcx
      clear hcell hcx
      have cx := HX.out k hlt _ _ hO
      obtain ⟨x, hx⟩ : ∃ x, l.getD k 0 = x := ⟨_, rfl⟩
      rw [hx] at cx
      have HXX := Lib.hid hx
      -- the numbers
      obtain ⟨m0, hm0⟩ : ∃ m, mnS S (P x) 4 = m := ⟨_, rfl⟩
      obtain ⟨o0, ho0⟩ : ∃ m, mnS S (P (k : Int)) 4 = m := ⟨_, rfl⟩
      obtain ⟨more, hmore⟩ : ∃ m, anyS S (P x) 4 = m := ⟨_, rfl⟩
      obtain ⟨S', hS'⟩ : ∃ S', addOf S (P x) false = S' := ⟨_, rfl⟩
      have hS2 : S' = addS S (P x) 4 := by rw [← hS']; funext i c; unfold addOf; rw [if_neg (by simp)]
      have hlo' : Lo S' := by rw [hS2]; exact addS_lo hlo _ _
      obtain ⟨m1, hm1⟩ : ∃ m, mnS S' (P x) 4 = m := ⟨_, rfl⟩
      obtain ⟨o1, ho1⟩ : ∃ m, mnS S' (P (k : Int)) 4 = m := ⟨_, rfl⟩
      have q1 : m1 = min (m0 + 1) 15 := by rw [← hm1, hS2, mnS_add hlo, hm0]
      have q2 : o0 ≤ o1 := by rw [← ho0, ← ho1, hS2]; exact mnS_mono (addS_mono hlo _) _
      have q3 : o1 ≤ 15 := by rw [← ho1]; exact mnS_lo hlo' _
      have q0 : m0 ≤ 15 := by rw [← hm0]; exact mnS_lo hlo _
      have q4 : min (ct x l (k + 1)) 15 ≤ m1 := by
        have := hall x
        rw [ct, q1, if_pos hx]
        omega
      have hall' : ∀ y, min (ct y l (k + 1)) 15 ≤ mnS S' (P y) 4 := by
        intro y
        by_cases e : y = x
        · rw [e, hm1]; exact q4
        · have h1 := hall y
          have h2 : mnS S (P y) 4 ≤ mnS S' (P y) 4 := by rw [hS2]; exact mnS_mono (addS_mono hlo _) _
          rw [ct, if_neg (by rw [hx]; exact fun e2 => e e2.symm)]
          omega
      have hn4 := ct_le x l (k + 1)
      have hnum : numOf N1 more false ≤ k + 1 := by unfold numOf; rw [if_neg (by simp)]; split <;> omega
      have haged : (more && decide (160 * 4 ≤ N1 + 1)) = false := by rw [decide_eq_false (by omega)]; cases more <;> rfl
      obtain ⟨N2, hN2⟩ : ∃ n, numOf N1 more false = n := ⟨_, rfl⟩
      rw [hN2] at hnum
      have M0 := Lib.hid hm0
      have O0 := Lib.hid ho0
      have MR := Lib.hid hmore
      have SS := Lib.hid hS'
      have LO := Lib.hid hlo'
      have M1 := Lib.hid hm1
      have O1 := Lib.hid ho1
      have ALL := Lib.hid hall'
      have AG := Lib.hid haged
      have NN := Lib.hid hN2
      obtain ⟨n, hn⟩ : ∃ n, ct x l (k + 1) = n := ⟨_, rfl⟩
      rw [hn] at q4 hn4
      have CN := Lib.hid hn
      have t1 : decide ((m1 : Int) < min (n : Int) 15) = false := decide_eq_false (by omega)
      have t2 : ((m1 : Int) != min ((m0 : Int) + 1) 15) = false := by rw [bne_eq_false_iff_eq]; omega
      have t3 : decide (o1 < o0) = false := decide_eq_false (by omega)
      have t4 : decide (15 < o1) = false := decide_eq_false (by omega)
      have t4' : decide ((15 : Int) < (o1 : Int)) = false := decide_eq_false (by omega)
      have b1 : (m0 : Int) ≤ 15 := by omega
      clear hm0 ho0 hmore hS' hS2 hlo' hm1 ho1 hall' haged hN2 hn hx hlo hall hrel HC q1 q2 q3 q0 q4
      go_wp2_with fail
      go_at_call 14
      refine (s_count x (HP.out x) M0.out hr1 hO).mono ?_
      rintro e w3 ⟨rfl, hO3⟩
      have cx3 := HX.out k hlt _ _ hO3
      rw [HXX.out] at cx3
      go_wp2_with fail
      go_at_call 14
      refine (s_count (k : Int) (HP.out _) O0.out hr1 hO3).mono ?_
      rintro e w4 ⟨rfl, hO4⟩
      have cx4 := HX.out k hlt _ _ hO4
      rw [HXX.out] at cx4
      clear hO cx hO3 cx3
      go_wp2_with fail
      go_at_call 12
      refine (s_add x (HP.out x) MR.out AG.out hr1 hO4).mono ?_
      rintro e w5 ⟨rfl, r5, hr5, hO5⟩
      rw [NN.out, SS.out] at hr5
      have HO5 := Lib.hid (show SkOwned w0 F g seed 4 N2 S' w5 from ⟨r5, hr5, hO5⟩)
      clear hr1 hO4 cx4 hr5 hO5
      go_wp2_with fail
      go_loopw [12, 13] (fun x12 x13 wr => ∃ j : Nat, j ≤ k + 1 ∧ x13 = .int .i64 j ∧ x12 = .int .i64 (ct x l j : Nat) ∧ Hid (SkOwned w0 F g seed 4 N2 S' wr)) (fun _ x13 _ => k + 1 - (intOf x13).toNat)
      case atStart => exact ⟨0, Nat.zero_le _, rfl, rfl, HO5⟩
      case round =>
        clear HO5
        obtain ⟨j, hj, rfl, rfl, hrel⟩ := hrel
        obtain ⟨r6, hr6, hO6⟩ := hrel.out
        by_cases hlj : j < k + 1
        · have cy := HX.out j (by omega) _ _ hO6
          have cz := HX.out k hlt _ _ hO6
          rw [HXX.out] at cz
          have hjl := ct_le x l j
          have HS := Lib.hid (show ct x l (j + 1) = ct x l j + if l.getD j 0 = x then 1 else 0 from rfl)
          have HO6 := Lib.hid (And.intro hr6 hO6)
          clear hrel hr6 hO6 t1 t2 t3 t4 t4'
          generalize ct x l j = cj at *
          obtain ⟨y, hy⟩ : ∃ y, l.getD j 0 = y := ⟨_, rfl⟩
          rw [hy] at cy
          have HY := Lib.hid hy
          clear hy
          replace cy := cell_regrown cy
          replace cz := cell_regrown cz
          have hjk : decide (j ≤ k) = true := decide_eq_true (by omega)
          by_cases e : y = x
          all_goals
            go_wp2_with fail
            refine wp_region_quiet_below (by kernel_rfl) (by kernel_rfl) ?_
            repeat (first | go_big_quiet_step (fail) | quiet_step (fail))
            refine wpQuiet_nil ?_
            intro _ hw'
            obtain ⟨⟨dq, osq⟩, hw''⟩ := hw'
            subst hw''
            have HO7 := Lib.hid (HO6.out.2.under (below_regrown _ dq osq))
            go_wp2_with fail
            go_roundw
            case rel => exact ⟨j + 1, by omega, by go_num, by rw [HS.out, HY.out]; first | (rw [if_pos e]; go_num) | (rw [if_neg e]; go_num), r6, HO6.out.1, HO7.out⟩
            case measure => simp [intOf]; omega
        · obtain rfl : j = k + 1 := by omega
          rw [CN.out]
          have hjk : decide (k + 1 ≤ k) = false := decide_eq_false (by omega)
          have cx6 := HX.out k hlt _ _ hO6
          rw [HXX.out] at cx6
          clear hrel
          go_wp2_with fail
          go_at_call 14
          refine (s_count x (HP.out x) M1.out hr6 hO6).mono ?_
          rintro e w7 ⟨rfl, hO7⟩
          have cx7 := HX.out k hlt _ _ hO7
          rw [HXX.out] at cx7
          clear hO6 cx6
          go_wp2_with fail
          go_at_call 14
          refine (s_count x (HP.out x) M1.out hr6 hO7).mono ?_
          rintro e w8 ⟨rfl, hO8⟩
          clear hO7 cx7
          go_wp2_with fail
          go_at_call 14
          refine (s_count (k : Int) (HP.out _) O1.out hr6 hO8).mono ?_
          rintro e w9 ⟨rfl, hO9⟩
          clear hO8
          go_wp2_with fail
          go_at_call 14
          refine (s_count (k : Int) (HP.out _) O1.out hr6 hO9).mono ?_
          rintro e w10 ⟨rfl, hO10⟩
          clear hO9
          have HO10 := Lib.hid hO10
          clear hO10
          go_wp2_with fail
          go_roundw
          case rel => exact ⟨k + 1, by omega, by go_num, S', r6, N2, hr6, HO10.out, LO.out, hnum, ALL.out⟩
          case measure => simp [intOf]; omega
    · obtain rfl : k = N := by omega
      have hd : decide (N1 ≤ k) = true := decide_eq_true hN1
      clear hall hlo hrel
      go_wp2_with fail
      go_at_call 18
      refine (s_samples hr1 hO).mono ?_
      rintro e w4 ⟨rfl, rfl⟩
      go_wp2_with fail
      go_ret
      exact ⟨rfl, hO.below⟩
end Go.Proofs.Ytpdboglgjpmcdaa
