/- Layer 13: the statements' small case comes out right; StripesLoses. -/
import Derived.Test.YtjhoipbffadcjaaStripes6
namespace Go.Proofs.Ytjhoipbffadcjaa
open Go.RowKit Go.Sep
theorem below_drewN (w : World) (m : Nat) : Below w.heap.size w (w.drewN m) := ⟨rfl, rfl, rfl, Nat.le_refl _, fun _ _ => rfl⟩
theorem ints_b {v u : Value} {la : List Int} {w : World} (ha : Reads w v la) (hb : Reads w u la) :
    Calls Try.prog 12 #[v, u] w fun e w' => e = .returned (.bool true) ∧ Below w.heap.size w w' :=
  (ints_yes rfl ha hb).mono (by rintro e w' ⟨rfl, m, rfl⟩; exact ⟨rfl, below_drewN _ _⟩)
theorem plT_one (s t : Int) : plT s t 1 = 0 := by have := plT_lt s t (show 1 ≤ 1 by omega); omega
theorem min_if3 : ∀ x y : Int, (if x < y then x else y) = min y x := fun x y => by split <;> omega
theorem max_if3 : ∀ x y : Int, (if x < y then y else x) = max x y := fun x y => by split <;> omega
def L1 : Nat → List Int := offL 2 (fun _ => []) 0 7
def G1 : Nat → Nat := offG 2 (fun _ => []) (fun _ => 0) 0
def L2 : Nat → List Int := offL 2 L1 0 8
def G2 : Nat → Nat := offG 2 L1 G1 0
def L3 : Nat → List Int := offL 2 L2 0 9
def G3 : Nat → Nat := offG 2 L2 G2 0
set_option maxHeartbeats 1600000 in
theorem small_calls (w0 : World) : Calls Try.prog 7 #[] w0 fun e w' => e = .returned (.bool true) ∧ Below w0.heap.size w0 w' := by
  have c0 := st_new 1 2 5 (Owned.nil w0)
  rw [show ringSize 2 = 2 by decide, show stripeN 1 = 1 by decide] at c0
  have P0 := Lib.hid plT_one
  have A1 := Lib.hid (show decide ((L1 0).length < 2) = true by decide)
  have A2 := Lib.hid (show decide ((L2 0).length < 2) = false by decide)
  have B1 := Lib.hid (show ∀ i, i < 1 → G1 i + 1 ≤ 1000000 from fun i hi => by (obtain rfl : i = 0 := (by omega)); decide)
  have B2 := Lib.hid (show ∀ i, i < 1 → G2 i + 1 ≤ 1000000 from fun i hi => by (obtain rfl : i = 0 := (by omega)); decide)
  have C3 := Lib.hid (show catTo L3 1 = [7, 8] by decide)
  have S3 := Lib.hid (show sumG G3 1 = 1 by decide)
  have Z1 := Lib.hid (show sumL (fun _ => []) 1 = 0 by decide)
  have Z2 := Lib.hid (show lensTo (fun _ => []) 1 = [0] by decide)
  go_enter Try.func7, Try.ntmps7
  go_wp2_with fail
  go_at_call 8
  refine (c0).mono ?_
  rintro e w1 ⟨g, r1, rfl, hr1, hO1⟩
  go_wp2_with fail
  go_at_call 10
  refine (st_offer 3 7 (P0.out _ _) (b := true) rfl (fun _ _ => by omega) hr1 hO1).mono ?_
  rintro e w2 ⟨rfl, r2, hr2, hO2⟩
  replace hr2 : StAt g 5 2 1 L1 G1 r2 := hr2
  clear hr1 hO1 c0
  go_wp2_with fail
  go_at_call 10
  refine (st_offer 4 8 (P0.out _ _) A1.out B1.out hr2 hO2).mono ?_
  rintro e w3 ⟨rfl, r3, hr3, hO3⟩
  replace hr3 : StAt g 5 2 1 L2 G2 r3 := hr3
  clear hr2 hO2
  go_wp2_with fail
  go_at_call 10
  refine (st_offer 3 9 (P0.out _ _) A2.out B2.out hr3 hO3).mono ?_
  rintro e w4 ⟨rfl, r4, hr4, hO4⟩
  replace hr4 : StAt g 5 2 1 L3 G3 r4 := hr4
  clear hr3 hO3
  go_wp2_with fail
  go_at_call 13
  refine (st_drain hr4 hO4).mono ?_
  rintro e w5 ⟨v, q, r5, rfl, hrow, hr5, hO5⟩
  rw [C3.out] at hrow
  clear hr4 hO4
  go_wp2_with fail
  go_at_call 12
  refine (ints_b (la := [7, 8]) ?ha ?hb).mono ?_
  case ha => exact (reads_of_row (l := [7, 8]) hrow (by decide) hO5).below ((Below.refl _ _).alloc (Nat.le_refl _) _)
  case hb => exact reads_lit w5 [7, 8] 3 (by decide)
  rintro e w6 ⟨rfl, hb6⟩
  have hO6 := (hO5.drop_.alloc_ (.cells #[.int .i64 7, .int .i64 8] 3)).under hb6
  clear hb6 hrow hO5
  have c1 := st_Lost hr5 hO6
  rw [S3.out] at c1
  have c2 := st_Len hr5 hO6
  rw [Z1.out] at c2
  have c3 := st_place 9 hr5 hO6
  rw [P0.out] at c3
  go_wp2_with fail
  go_at_call 14
  refine (c1).mono ?_
  rintro e w7 ⟨rfl, rfl⟩
  go_wp2_with fail
  go_at_call 15
  refine (c2).mono ?_
  rintro e w7 ⟨rfl, rfl⟩
  go_wp2_with fail
  go_at_call 9
  refine (c3).mono ?_
  rintro e w7 ⟨rfl, hb7⟩
  have hO7 := hO6.under hb7
  clear c1 c2 c3 hb7 hO6
  go_wp2_with fail
  go_at_call 11
  refine (st_lens hr5 hO7).mono ?_
  rintro e w8 ⟨v8, q8, rfl, hrow8, hO8⟩
  rw [Z2.out] at hrow8
  go_wp2_with fail
  go_at_call 12
  refine (ints_b (la := [0]) ?ha ?hb).mono ?_
  case ha => exact (reads_of_row (l := [0]) hrow8 (by decide) hO8).below ((Below.refl _ _).alloc (Nat.le_refl _) _)
  case hb => exact reads_lit w8 [0] 3 (by decide)
  rintro e w9 ⟨rfl, hb9⟩
  have hO9 := (hO8.alloc_ (.cells #[.int .i64 0] 3)).under hb9
  go_wp2_with fail
  go_ret
  exact ⟨rfl, hO9.below⟩
set_option maxHeartbeats 800000 in
theorem loses_out (count size seed thread n : Int) (w0 : World) (h1 : size < 1 ∨ (1 ≤ size ∧ 64 < size) ∨ (1 ≤ size ∧ size ≤ 64 ∧ n < 0) ∨ (1 ≤ size ∧ size ≤ 64 ∧ 0 ≤ n ∧ 200 < n)) :
    Calls Try.prog 4 #[.int .i64 count, .int .i64 size, .int .i64 seed, .int .i64 thread, .int .i64 n] w0 fun e w' => e = .returned (.bool true) ∧ Below w0.heap.size w0 w' := by
  rcases h1 with h1 | ⟨h1, h2⟩ | ⟨h1, h2, h3⟩ | ⟨h1, h2, h3, h4⟩
  all_goals
    go_enter Try.func4, Try.ntmps4
    go_wp2_with fail
    go_at_call 7
    refine (small_calls w0).mono ?_
    rintro e w1 ⟨rfl, hb1⟩
    go_wp2_with fail
    go_at_call 8
    refine (st_new count size seed ((Owned.nil w0).under hb1)).mono ?_
    rintro e w2 ⟨g, r, rfl, hr, hO2⟩
    go_wp2_with fail
    go_ret
    exact ⟨rfl, hO2.below⟩
/-- the first numbers, as many as there is room for -/
def losL (p R i : Nat) : Nat → List Int := updF (fun _ => []) p ((List.range (min i R)).map (fun j => ((j : Nat) : Int)))
def losG (p R i : Nat) : Nat → Nat := updF (fun _ => 0) p (i - R)
theorem losL_p (p R i : Nat) : (losL p R i p).length = min i R := by unfold losL; rw [updF_self]; simp
theorem updF_updF {α : Type} (f : Nat → α) (p : Nat) (a b : α) : updF (updF f p a) p b = updF f p b := by
  funext j
  unfold updF
  split <;> rfl
theorem losL_step (p R i : Nat) : offL R (losL p R i) p i = losL p R (i + 1) := by
  unfold offL
  rw [losL_p]
  by_cases h : i < R
  · rw [if_pos (by omega)]
    unfold losL
    rw [updF_self, updF_updF, show min i R = i by omega, show min (i + 1) R = i + 1 by omega, List.range_succ, List.map_append]
    rfl
  · rw [if_neg (by omega), updF_id]
    unfold losL
    rw [show min i R = R by omega, show min (i + 1) R = R by omega]
theorem losG_step (p R i : Nat) : offG R (losL p R i) (losG p R i) p = losG p R (i + 1) := by
  unfold offG
  rw [losL_p]
  unfold losG
  rw [updF_self, updF_updF]
  congr 1
  split <;> omega
theorem sumL_upd (p : Nat) (K : List Int) : ∀ m, sumL (updF (fun _ => []) p K) m = if p < m then K.length else 0
  | 0 => rfl
  | m + 1 => by
    rw [sumL, sumL_upd p K m]
    unfold updF
    by_cases e : m = p
    · rw [if_pos e, if_neg (by omega), if_pos (by omega), Nat.zero_add]
    · rw [if_neg e]
      by_cases h : p < m
      · rw [if_pos h, if_pos (by omega)]; rfl
      · rw [if_neg h, if_neg (by omega)]; rfl
theorem sumG_upd (p x : Nat) : ∀ m, sumG (updF (fun _ => 0) p x) m = if p < m then x else 0
  | 0 => rfl
  | m + 1 => by
    rw [sumG, sumG_upd p x m]
    unfold updF
    by_cases e : m = p
    · rw [if_pos e, if_neg (by omega), if_pos (by omega), Nat.zero_add]
    · rw [if_neg e]
      by_cases h : p < m
      · rw [if_pos h, if_pos (by omega), Nat.add_zero]
      · rw [if_neg h, if_neg (by omega)]; rfl
theorem lensTo_get (L : Nat → List Int) (m p : Nat) (h : p < m) : (lensTo L m).getD p 0 = (((L p).length : Nat) : Int) := by
  simp [lensTo, List.getD, h]
def LosRel (w0 : World) (F : Own) (g : Nat) (seed : Int) (R m p i : Nat) (w : World) : Prop := ∃ r, StAt g seed R m (losL p R i) (losG p R i) r ∧ Owned w0 w (r ++ F)
set_option maxHeartbeats 3200000 in
set_option maxRecDepth 100000 in
theorem loses_walk (count size seed thread : Int) (M : Nat) (w0 : World) (h1 : 1 ≤ size) (h2 : size ≤ 64) (hM : M ≤ 200) :
    Calls Try.prog 4 #[.int .i64 count, .int .i64 size, .int .i64 seed, .int .i64 thread, .int .i64 (M : Int)] w0 fun e w' => e = .returned (.bool true) ∧ Below w0.heap.size w0 w' := by
  have hd := fun (w : World) (h : Owned w0 w ([] : Own)) => st_new count size seed h
  have HSZ := Lib.hid (show P2 (up size 0 12) = ((ringSize size : Nat) : Int) from P2_nat _)
  have hbd := ringSize_bd size
  obtain ⟨m1, m2⟩ := stripeN_bd count
  generalize stripeN count = m at *
  obtain ⟨R, hR⟩ : ∃ R, ringSize size = R := ⟨_, rfl⟩
  rw [hR] at hd HSZ hbd
  obtain ⟨r1, r2, _⟩ := hbd
  obtain ⟨p, hp⟩ : ∃ p, plT seed thread m = p := ⟨_, rfl⟩
  have hpm : p < m := by rw [← hp]; exact plT_lt _ _ m1
  have HP := Lib.hid hp
  have hmin := min_if3
  have hmax := max_if3
  clear hp hR
  go_enter Try.func4, Try.ntmps4
  go_wp2_with fail
  go_at_call 7
  refine (small_calls w0).mono ?_
  rintro e w1 ⟨rfl, hb1⟩
  go_wp2_with fail
  go_at_call 8
  refine (hd _ ((Owned.nil w0).under hb1)).mono ?_
  rintro e w2 ⟨g, r, rfl, hr, hO2⟩
  obtain ⟨F, hO2⟩ : ∃ F, Owned w0 w2 (r ++ F) := ⟨[], hO2⟩
  have e1 : (fun _ => []) = losL p R 0 := by unfold losL; funext j; unfold updF; rw [show min 0 R = 0 by omega]; split <;> rfl
  have e2 : (fun _ => 0) = losG p R 0 := by unfold losG; funext j; unfold updF; rw [show 0 - R = 0 by omega]; split <;> rfl
  rw [e1, e2] at hr
  have HO2 := Lib.hid (show LosRel w0 F g seed R m p 0 w2 from ⟨r, hr, hO2⟩)
  clear hr hO2 hd e1 e2
  go_wp2_with fail
  go_loop [13] (fun x13 => ∃ i : Nat, i ≤ 12 ∧ x13 = .int .i64 (P2 i) ∧ Hid (up size i (12 - i) = up size 0 12)) (fun x13 => 64 - (intOf x13).toNat)
  case atStart => exact ⟨0, by omega, rfl, rfl⟩
  case round =>
    obtain ⟨i, hi, rfl, hu⟩ := hrel
    have hb := P2_bd (show i ≤ 61 by omega)
    obtain ⟨hb1', hb2'⟩ := hb
    by_cases hlt : P2 i < size
    · have him : i < 12 := by
        rcases Nat.lt_or_ge i 12 with h | h
        · exact h
        · have := P2_mono (show 6 ≤ i by omega)
          have e6 : P2 6 = 64 := rfl
          omega
      have hs := Lib.hid (show P2 (i + 1) = 2 * P2 i by rw [P2_succ]; omega)
      have hnew := Lib.hid (up_step hlt him)
      go_wp2
      go_round
      case rel => exact ⟨i + 1, by omega, by rw [hs.out], by rw [Hid, ← hnew.out]; exact hu⟩
      case measure => simp [intOf]; omega
    · have hr : P2 i = ((R : Nat) : Int) := by
        have h3 := hu.out
        rw [up_stay (by omega)] at h3
        rw [h3]
        exact HSZ.out
      rw [hr] at hlt
      rw [hr]
      clear hr hb1' hb2' hu
      go_wp2_with fail
      go_loopw [14] (fun x14 wr => ∃ k : Nat, k ≤ M ∧ x14 = .int .i64 k ∧ Hid (LosRel w0 F g seed R m p k wr)) (fun x14 _ => M - (intOf x14).toNat)
      case atStart => exact ⟨0, Nat.zero_le _, rfl, HO2⟩
      case round =>
        clear HO2
        obtain ⟨k, hk, rfl, hrel⟩ := hrel
        obtain ⟨r1, hr1, hO⟩ := hrel.out
        clear hrel
        by_cases hlt : k < M
        · have hG : ∀ i, i < m → losG p R k i + 1 ≤ 1000000 := fun i _ => by unfold losG updF; dsimp only; split <;> omega
          have HG := Lib.hid hG
          have HL := Lib.hid (losL_p p R k)
          have SL := Lib.hid (losL_step p R k)
          have SG := Lib.hid (losG_step p R k)
          obtain ⟨b, hb⟩ : ∃ b, decide ((losL p R k p).length < R) = b := ⟨_, rfl⟩
          have HB := Lib.hid hb
          rw [losL_p] at hb
          have hb2 : decide (k < R) = b := by rw [← hb]; congr 1; exact propext ⟨fun h => by omega, fun h => by omega⟩
          clear hG hb
          cases b
          all_goals
            go_wp2_with fail
            go_at_call 10
            refine (st_offer thread (k : Int) HP.out HB.out HG.out hr1 hO).mono ?_
            rintro e w3 ⟨rfl, r3, hr3, hO3⟩
            rw [SL.out, SG.out] at hr3
            have HO3 := Lib.hid (show LosRel w0 F g seed R m p (k + 1) w3 from ⟨r3, hr3, hO3⟩)
            clear hr3 hO3 hr1 hO
            go_wp2_with fail
            go_roundw
            case rel => exact ⟨k + 1, by omega, by go_num, HO3⟩
            case measure => simp [intOf]; omega
        · obtain rfl : k = M := by omega
          obtain ⟨q, hq⟩ : ∃ q, min k R = q := ⟨_, rfl⟩
          have cl := fun (W : World) (G : Own) (h : Owned w0 W (r1 ++ G)) => st_Len hr1 h
          have cg := fun (W : World) (G : Own) (h : Owned w0 W (r1 ++ G)) => st_Lost hr1 h
          have cp := fun (W : World) (h : Owned w0 W (r1 ++ F)) => st_place thread hr1 h
          have e1 : sumL (losL p R k) m = q := by unfold losL; rw [sumL_upd, if_pos hpm]; simp [hq]
          have e2 : sumG (losG p R k) m = k - R := by unfold losG; rw [sumG_upd, if_pos hpm]
          have e3 : (lensTo (losL p R k) m).getD p 0 = (q : Int) := by rw [lensTo_get _ _ _ hpm, losL_p, hq]
          rw [e1] at cl
          rw [e2] at cg
          rw [HP.out] at cp
          have CL := Lib.hid cl
          have CG := Lib.hid cg
          have CP := Lib.hid cp
          have E3 := Lib.hid e3
          have LL := Lib.hid (lensTo_len (losL p R k) m)
          have t1 : (((q : Nat) : Int) == min (k : Int) (R : Int)) = true := by rw [beq_iff_eq]; omega
          have t2 : ((((k - R : Nat)) : Int) == max ((k : Int) - (R : Int)) 0) = true := by rw [beq_iff_eq]; omega
          have t2' : ((((k - R : Nat)) : Int) == max 0 ((k : Int) - (R : Int))) = true := by rw [beq_iff_eq]; omega
          have k1 : ((p : Nat) : Int) < (m : Int) := by omega
          have k2 : (0 : Int) ≤ ((p : Nat) : Int) := by omega
          clear e1 e2 e3 cl cg cp
          go_wp2_with fail
          go_at_call 11
          refine (st_lens hr1 hO).mono ?_
          rintro e w4 ⟨v, qr, rfl, hrow, hO4⟩
          have hrd := reads_of_row (l := lensTo (losL p R k) m) (by rw [LL.out]; exact hrow) (by rw [LL.out]; omega) hO4
          rw [Reads, LL.out] at hrd
          obtain ⟨_, A, c, rfl, hcell⟩ := hrd
          obtain ⟨b, off, rfl, hcc⟩ := hcell (by omega)
          have cx := hcc p hpm
          rw [E3.out] at cx
          have HO4 := Lib.hid hO4
          clear hcell hcc hrow hO hO4
          go_wp2_with fail
          go_at_call 9
          refine (CP.out _ (Owned.drop_ HO4.out)).mono ?_
          rintro e w5 ⟨rfl, hb5⟩
          have cx5 := (hb5.cell (p := ⟨b, off + p, none⟩) (World.block_lt_of_cell? _ _ cx)).trans cx
          have HO5 := Lib.hid ((Owned.drop_ HO4.out).under hb5)
          clear cx hb5
          obtain ⟨z, hz⟩ : ∃ z, k - R = z := ⟨_, rfl⟩
          rw [hz] at t2 t2' CG
          have cl := CL.out _ _ HO5.out
          have cg := CG.out _ _ HO5.out
          clear CL CG t1 t2 t2'
          by_cases hkR : R < k
          · have t3 : (((z : Nat) : Int) == (k : Int) - (R : Int)) = true := by rw [beq_iff_eq]; omega
            have hqR : q = R := by omega
            rw [hqR] at cl cx5
            clear hz hq hqR
            go_wp2_with fail
            go_at_call 15
            refine (cl).mono ?_
            rintro e w6 ⟨rfl, rfl⟩
            go_wp2_with fail
            go_at_call 14
            refine (cg).mono ?_
            rintro e w6 ⟨rfl, rfl⟩
            go_wp2_with fail
            go_ret
            exact ⟨rfl, HO5.out.below⟩
          · obtain rfl : z = 0 := by omega
            have hqR : q = k := by omega
            have t4 : ((0 : Int) == max ((k : Int) - (R : Int)) 0) = true := by rw [beq_iff_eq]; omega
            rw [hqR] at cl cx5
            clear hz hq hqR
            go_wp2_with fail
            go_at_call 15
            refine (cl).mono ?_
            rintro e w6 ⟨rfl, rfl⟩
            go_wp2_with fail
            go_at_call 14
            refine (cg).mono ?_
            rintro e w6 ⟨rfl, rfl⟩
            go_wp2_with fail
            go_ret
            exact ⟨rfl, HO5.out.below⟩
end Go.Proofs.Ytjhoipbffadcjaa
