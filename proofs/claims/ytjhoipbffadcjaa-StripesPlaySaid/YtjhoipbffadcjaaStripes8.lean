/- The statements of layer 13: StripesOne, the walk. -/
import Derived.Test.YtjhoipbffadcjaaStripes7
import Derived.Test.YtjhoipbffadcjaaReadsR
import Derived.Deep.RegionHeld3
namespace Go.Proofs.Ytjhoipbffadcjaa
open Go.RowKit Go.Sep
/-- the two numbers of an element, in any later world -/
def TwoAt (w0 : World) (b off : Nat) (k : Nat) (x y : Int) : Prop := ∀ W (l' : Own), Owned w0 W l' → W.cell? ⟨b, off + k * 2, none⟩ = some (.int .i64 x) ∧ W.cell? ⟨b, off + k * 2 + 1, none⟩ = some (.int .i64 y)
theorem two_at {w0 : World} {b off N : Nat} {f : Nat → Nat → Int} (h : ∀ i j, i < N → j < 2 → w0.cell? ⟨b, off + (i * 2 + j), none⟩ = some (.int .i64 (f i j))) {k : Nat} (hk : k < N) : TwoAt w0 b off k (f k 0) (f k 1) := by
  intro W l' hO
  have h0 := h k 0 hk (by omega)
  have h1 := h k 1 hk (by omega)
  rw [Nat.add_zero] at h0
  rw [← Nat.add_assoc] at h1
  exact ⟨(hO.below.cell (p := ⟨b, off + k * 2, none⟩) (World.block_lt_of_cell? _ _ h0)).trans h0, (hO.below.cell (p := ⟨b, off + k * 2 + 1, none⟩) (World.block_lt_of_cell? _ _ h1)).trans h1⟩
theorem sumL_updF (L : Nat → List Int) (p : Nat) (K : List Int) : ∀ m, p < m → sumL (updF L p K) m + (L p).length = sumL L m + K.length
  | 0, h => absurd h (Nat.not_lt_zero _)
  | m + 1, h => by
    rw [sumL, sumL]
    by_cases e : p = m
    · subst e
      rw [updF_self]
      have : ∀ k, k ≤ p → sumL (updF L p K) k = sumL L k := by
        intro k
        induction k with
        | zero => intro _; rfl
        | succ k ih => intro hk; rw [sumL, sumL, ih (by omega), updF_ne _ _ (by omega)]
      rw [this p (Nat.le_refl _)]
      omega
    · have := sumL_updF L p K m (by omega)
      rw [updF_ne _ _ (by omega)]
      omega
theorem sumL_ge (L : Nat → List Int) (p : Nat) : ∀ m, p < m → (L p).length ≤ sumL L m
  | 0, h => absurd h (Nat.not_lt_zero _)
  | m + 1, h => by
    rw [sumL]
    by_cases e : p = m
    · subst e; omega
    · have := sumL_ge L p m (by omega)
      omega
theorem sumL_nil : ∀ m, sumL (fun _ => []) m = 0
  | 0 => rfl
  | m + 1 => by rw [sumL, sumL_nil m]; rfl
theorem sumG_zero : ∀ m, sumG (fun _ => 0) m = 0
  | 0 => rfl
  | m + 1 => by rw [sumG, sumG_zero m]
def vals (f : Nat → Nat → Int) (k : Nat) : List Int := (List.range k).map (fun i => f i 1)
theorem vals_succ (f : Nat → Nat → Int) (k : Nat) : vals f (k + 1) = vals f k ++ [f k 1] := by unfold vals; rw [List.range_succ, List.map_append]; rfl
theorem vals_len (f : Nat → Nat → Int) (k : Nat) : (vals f k).length = k := by simp [vals]
theorem off_room {n : Nat} {L : Nat → List Int} {p : Nat} {v : Int} (h : (L p).length < n) : offL n L p v = updF L p (L p ++ [v]) := by unfold offL; rw [if_pos h]
theorem offG_room {n : Nat} {L : Nat → List Int} {G : Nat → Nat} {p : Nat} (h : (L p).length < n) : offG n L G p = G := by unfold offG; rw [if_pos h, updF_id]
def OneRel (w0 : World) (F : Own) (g g2 : Nat) (seed : Int) (m k : Nat) (f : Nat → Nat → Int) (x : Value) (w : World) : Prop :=
  ∃ q r r2 L2, Row 3 1 x k (ints (vals f k)) q ∧ StAt g seed 256 1 (updF (fun _ => []) 0 (vals f k)) (fun _ => 0) r ∧ StAt g2 seed 256 m L2 (fun _ => 0) r2 ∧ sumL L2 m = k ∧ Owned w0 w (q ++ (r ++ (r2 ++ F)))
set_option maxHeartbeats 800000 in
theorem one_out (count seed : Int) (v : Value) (N : Nat) (f : Nat → Nat → Int) (w0 : World) (hv : ReadsR 2 w0 v N f) (h1 : 200 < N) : Calls Try.prog 3 #[.int .i64 count, .int .i64 seed, v] w0 fun e w' => e = .returned (.bool true) ∧ Below w0.heap.size w0 w' := by
  obtain ⟨hl, hbd, A, c, rfl, hc⟩ := hv
  clear hbd hc
  go_enter Try.func3, Try.ntmps3
  go_wp2_with fail
  go_at_call 7
  refine (small_calls w0).mono ?_
  rintro e w1 ⟨rfl, hb1⟩
  go_wp2_with fail
  go_at_call 8
  refine (st_new 1 256 seed ((Owned.nil w0).under hb1)).mono ?_
  rintro e w2 ⟨g, r, rfl, hr, hO2⟩
  go_wp2_with fail
  go_at_call 8
  refine (st_new count 256 seed hO2).mono ?_
  rintro e w3 ⟨g2, r2, rfl, hr2, hO3⟩
  go_wp2_with fail
  go_ret
  exact ⟨rfl, hO3.below⟩
set_option maxHeartbeats 6400000 in
set_option maxRecDepth 100000 in
theorem one_walk (count seed : Int) (v : Value) (N : Nat) (f : Nat → Nat → Int) (w0 : World) (hv : ReadsR 2 w0 v N f) (hshort : N ≤ 200) : Calls Try.prog 3 #[.int .i64 count, .int .i64 seed, v] w0 fun e w' => e = .returned (.bool true) ∧ Below w0.heap.size w0 w' := by
  obtain ⟨hl, hbd, A, c, rfl, hc⟩ := hv
  have HC := Lib.hid hc
  clear hc hbd
  have hd1 := fun (w : World) (F : Own) (h : Owned w0 w F) => st_new 1 256 seed h
  have hd2 := fun (w : World) (F : Own) (h : Owned w0 w F) => st_new count 256 seed h
  rw [show ringSize 256 = 256 by decide] at hd1 hd2
  rw [show stripeN 1 = 1 by decide] at hd1
  obtain ⟨m1, m2⟩ := stripeN_bd count
  generalize stripeN count = m at *
  go_enter Try.func3, Try.ntmps3
  go_wp2_with fail
  go_at_call 7
  refine (small_calls w0).mono ?_
  rintro e w1 ⟨rfl, hb1⟩
  go_wp2_with fail
  go_at_call 8
  refine (hd1 _ _ ((Owned.nil w0).under hb1)).mono ?_
  rintro e w2 ⟨g, r, rfl, hr, hO2⟩
  go_wp2_with fail
  go_at_call 8
  refine (hd2 _ _ hO2).mono ?_
  rintro e w3 ⟨g2, r2, rfl, hr2, hO3⟩
  obtain ⟨F, hO3⟩ : ∃ F, Owned w0 w3 (r2 ++ (r ++ F)) := ⟨[], hO3⟩
  have HO3 := Lib.hid (show OneRel w0 F g g2 seed m 0 f (.slice none 0 0) w3 from ⟨[], r, r2, _, Row.nil _ _, by
    have e : updF (fun _ => []) 0 (vals f 0) = (fun _ => []) := by funext j; unfold updF vals; split <;> rfl
    rw [e]; exact hr, hr2, sumL_nil m, hO3.comm⟩)
  clear hr hr2 hO2 hO3 hd1 hd2
  go_wp2_with fail
  go_loopw [10, 11, 12] (fun x10 x11 _ wr => ∃ k : Nat, k ≤ N ∧ x11 = .int .i64 k ∧ Hid (OneRel w0 F g g2 seed m k f x10 wr)) (fun _ x11 _ _ => N - (intOf x11).toNat)
  case atStart => exact ⟨0, Nat.zero_le _, rfl, HO3⟩
  case round =>
    clear HO3
    obtain ⟨k, hk, rfl, hrel⟩ := hrel
    obtain ⟨q, r, r2, L2, hrow, hr, hr2, hs2, hO⟩ := hrel.out
    clear hrel
    obtain ⟨A1, c1, rfl⟩ := hrow.slice
    by_cases hlt : k < N
    · obtain ⟨b, off, rfl, hcell⟩ := HC.out (by omega)
      have TA := Lib.hid (two_at hcell hlt)
      have VS := Lib.hid (vals_succ f k)
      have VL := vals_len f k
      clear hcell HC
      generalize f k 0 = t at *
      generalize f k 1 = y at *
      obtain ⟨p, hp⟩ : ∃ p, plT seed t m = p := ⟨_, rfl⟩
      have hpm : p < m := by rw [← hp]; exact plT_lt _ _ m1
      have hlp := sumL_ge L2 p m hpm
      have hroom2 : (L2 p).length < 256 := by omega
      have hroom1 : (updF (fun _ => []) 0 (vals f k) 0).length < 256 := by rw [updF_self, VL]; omega
      have CX := Lib.hid (fun (W : World) (G : Own) (h : Owned w0 W (r ++ G)) => st_offer t y (plT_one seed t) (decide_eq_true hroom1) (fun _ _ => by omega) hr h)
      have CY := Lib.hid (fun (W : World) (G : Own) (h : Owned w0 W (r2 ++ G)) => st_offer t y hp (decide_eq_true hroom2) (fun _ _ => by omega) hr2 h)
      have E1 := Lib.hid (show offL 256 (updF (fun _ => []) 0 (vals f k)) 0 y = updF (fun _ => []) 0 (vals f (k + 1)) by rw [off_room hroom1, updF_self, updF_updF, VS.out])
      have E2 := Lib.hid (show offG 256 (updF (fun _ => []) 0 (vals f k)) (fun _ => 0) 0 = fun _ => 0 from offG_room hroom1)
      have E3 := Lib.hid (show sumL (offL 256 L2 p y) m = k + 1 by
        rw [off_room hroom2]
        have := sumL_updF L2 p (L2 p ++ [y]) m hpm
        rw [List.length_append, List.length_singleton] at this
        omega)
      have E4 := Lib.hid (show offG 256 L2 (fun _ => 0) p = fun _ => 0 from offG_room hroom2)
      have CP0 := Lib.hid (show Calls Try.prog 9 #[.pointer (some ⟨g2, 0, none⟩), .int .i64 t] wr fun e w' => e = .returned (.int .i64 (p : Nat)) ∧ Below wr.heap.size wr w' from hp ▸ st_place t hr2 hO.third)
      have HP := Lib.hid hp
      have hm1 : k + 1 ≤ maxLen := by unfold maxLen; omega
      have hm2 : (k + 1) * 8 ≤ 140737488355328 := by omega
      have k1 : ((p : Nat) : Int) < (m : Int) := by omega
      have k2 : (0 : Int) ≤ ((p : Nat) : Int) := by omega
      have k3 : decide ((m : Int) ≤ ((p : Nat) : Int)) = false := decide_eq_false (by omega)
      have k4 : decide (m ≤ p) = false := decide_eq_false (by omega)
      have HO := Lib.hid hO
      have HROW := Lib.hid hrow
      obtain ⟨cx0, cx1⟩ := TA.out _ _ HO.out
      clear hp hlp hroom1 hroom2 hr hr2 hs2 hO VL
      go_wp2_with fail
      go_at_call 9
      refine (CP0.out).mono ?_
      rintro e w4 ⟨rfl, hb4⟩
      have HO4 := Lib.hid (HO.out.under hb4)
      clear cx0 cx1 hb4 CP0 HO
      have ta4 := TA.out _ _ HO4.out
      go_wp2_with fail
      go_region_held3 (fun w' => w'.cell? ⟨b, off + k * 2, none⟩ = some (.int .i64 t) ∧ w'.cell? ⟨b, off + k * 2 + 1, none⟩ = some (.int .i64 y)) (first | exact ta4 | exact ta5 | exact ta6 | exact ta7 | exact ta8)
        (first
          | (go_at_call 10; (with_reducible refine (CX.out _ _ HO4.out.drew.comm).mono ?_); rintro e w5 ⟨rfl, r5, hr5, hO5⟩; have ta5 := TA.out _ _ hO5; have HR5 := Lib.hid hr5; have HO5 := Lib.hid hO5; clear hr5 hO5)
          | (go_at_call 10; (with_reducible refine (CY.out _ _ HO5.out.third).mono ?_); rintro e w6 ⟨rfl, r6, hr6, hO6⟩; have ta6 := TA.out _ _ hO6; have CP6 := st_place t hr6 hO6; rw [HP.out] at CP6; have HR6 := Lib.hid hr6; have HO6 := Lib.hid hO6; clear hr6 hO6)
          | (go_at_call 9; (with_reducible refine CP6.mono ?_); rintro e w7 ⟨rfl, hb7⟩; have HO7 := Lib.hid (HO6.out.under hb7); have ta7 := TA.out _ _ HO7.out; clear hb7)
          | (go_at_call 11; (with_reducible refine (st_lens HR6.out HO7.out).mono ?_); rintro e w8 ⟨v8, q8, rfl, hrow8, hO8⟩; have ta8 := TA.out _ _ hO8; obtain ⟨A8, c8, rfl⟩ := hrow8.slice; have HO8 := Lib.hid hO8.drop_; clear hrow8 hO8))
      obtain ⟨cy0, cy1⟩ := TA.out _ _ HO8.out
      clear ta4 ta5 ta6 ta7 ta8 CP6
      have hO9 := HO8.out.third
      have hrow := HROW.out
      go_wp2_with (at_builtin; refine append_one rfl (.tmp 102) (.tmp 108) 26 rfl 3 (.int .i64 0) 8 Try.underlying26 infoI rfl _ k _ q _ _ rfl hrow hO9 rfl rfl hm1 hm2 ?_)
      intro v2 q2 w9 hrow2 hO10
      have HN := Lib.hid (show OneRel w0 F g g2 seed m (k + 1) f v2 w9 from ⟨q2, r5, r6, _, by rw [VS.out, ints_append]; exact hrow2, by rw [← E1.out, ← E2.out]; exact HR5.out, by rw [← E4.out]; exact HR6.out, E3.out, hO10.perm (List.Perm.append_left _ (perm2 _ _ _))⟩)
      clear hrow2 hO10 hO9 hrow
      go_wp2_with fail
      go_roundw
      case rel => exact ⟨k + 1, by omega, by go_num, HN⟩
      case measure => simp [intOf]; omega
    · obtain rfl : k = N := by omega
      have hcat : catTo (updF (fun _ => []) 0 (vals f k)) 1 = vals f k := by rw [catTo, catTo, updF_self]; rfl
      have hcl := catTo_len L2 m
      rw [hs2] at hcl
      have VL := vals_len f k
      have VLH := Lib.hid VL
      have CAT := Lib.hid hcat
      have CL := Lib.hid hcl
      have SG := Lib.hid (sumG_zero 1)
      have HR2 := Lib.hid hr2
      clear hcat hcl hs2 hr2 VL
      go_wp2_with fail
      go_at_call 13
      refine (st_drain hr hO.comm).mono ?_
      rintro e w4 ⟨v4, q4, r4, rfl, hrow4, hr4, hO4⟩
      rw [CAT.out] at hrow4
      have ha : Reads w4 v4 (vals f k) := reads_of_row hrow4 (by rw [VLH.out]; omega) hO4
      have hb : Reads w4 (.slice A1 k c1) (vals f k) := reads_of_row (by rw [VLH.out]; exact hrow) (by rw [VLH.out]; omega) hO4.third
      go_wp2_with fail
      go_at_call 12
      refine (ints_b ha hb).mono ?_
      rintro e w5 ⟨rfl, hb5⟩
      have hO5 := hO4.under hb5
      clear ha hb hb5 hrow4 hO4
      have hO6 : Owned w0 w5 (r2 ++ (q ++ (r4 ++ F))) := hO5.drop_.comm.third
      clear hO5 hO hr
      go_wp2_with fail
      go_at_call 13
      refine (st_drain HR2.out hO6).mono ?_
      rintro e w7 ⟨v7, q7, r7, rfl, hrow7, hr7, hO7⟩
      rw [CL.out] at hrow7
      obtain ⟨A7, c7, rfl⟩ := hrow7.slice
      have hO8 : Owned w0 w7 (r4 ++ (r7 ++ (q ++ F))) := hO7.drop_.third
      have cl := st_Lost hr4 hO8
      rw [SG.out] at cl
      clear hO6 hO7
      go_wp2_with fail
      go_at_call 14
      refine (cl).mono ?_
      rintro e w8 ⟨rfl, rfl⟩
      go_wp2_with fail
      go_ret
      exact ⟨rfl, hO8.below⟩
end Go.Proofs.Ytjhoipbffadcjaa
