/- The statements of layer 13: StripesPlay, the walk. -/
import Derived.Test.YtjhoipbffadcjaaRefStr3
import Derived.Test.YtjhoipbffadcjaaStripes9
import Derived.Deep.DeepCutAuto
namespace Go.Proofs.Ytjhoipbffadcjaa
open Go.RowKit Go.Sep
set_option maxHeartbeats 800000 in
theorem splay_out (count size seed : Int) (v : Value) (N : Nat) (f : Nat → Nat → Int) (w0 : World) (hv : ReadsR 2 w0 v N f) (h1 : 200 < N) : Calls Try.prog 5 #[.int .i64 count, .int .i64 size, .int .i64 seed, v] w0 fun e w' => e = .returned (.bool true) ∧ Below w0.heap.size w0 w' := by
  obtain ⟨hl, hbd, A, c, rfl, hc⟩ := hv
  clear hbd hc
  go_enter Try.func5, Try.ntmps5
  go_wp2_with fail
  go_at_call 7
  refine (small_calls w0).mono ?_
  rintro e w1 ⟨rfl, hb1⟩
  go_wp2_with fail
  go_at_call 8
  refine (st_new count size seed ((Owned.nil w0).under hb1)).mono ?_
  rintro e w2 ⟨g, r, rfl, hr, hO2⟩
  go_wp2_with fail
  go_at_call 16
  refine (rst_new count size seed hO2).mono ?_
  rintro e w3 ⟨g2, r2, rfl, hr2, hO3⟩
  go_wp2_with fail
  go_ret
  exact ⟨rfl, hO3.below⟩
def SPl (w0 : World) (F : Own) (g g2 : Nat) (seed : Int) (R m k : Nat) (w : World) : Prop :=
  ∃ L G r r2, StAt g seed R m L G r ∧ RsAt g2 seed R m L G r2 ∧ sumG G m ≤ k ∧ Owned w0 w (r ++ (r2 ++ F))
theorem StAt.bounds {g n m : Nat} {seed : Int} {L : Nat → List Int} {G : Nat → Nat} {r : Own} (h : StAt g seed n m L G r) : ∀ i, i < m → (L i).length ≤ 4096 := by
  obtain ⟨v, q, gs, os, rfl, hI⟩ := h
  exact fun i hi => hI.len_le hi
set_option maxHeartbeats 6400000 in
set_option maxRecDepth 100000 in
theorem splay_walk (count size seed : Int) (v : Value) (N : Nat) (f : Nat → Nat → Int) (w0 : World) (hv : ReadsR 2 w0 v N f) (hshort : N ≤ 200) : Calls Try.prog 5 #[.int .i64 count, .int .i64 size, .int .i64 seed, v] w0 fun e w' => e = .returned (.bool true) ∧ Below w0.heap.size w0 w' := by
  obtain ⟨hl, hbd, A, c, rfl, hc⟩ := hv
  have HC := Lib.hid hc
  clear hc hbd
  have hd1 := fun (w : World) (F : Own) (h : Owned w0 w F) => st_new count size seed h
  have hd2 := fun (w : World) (F : Own) (h : Owned w0 w F) => rst_new count size seed h
  obtain ⟨m1, m2⟩ := stripeN_bd count
  generalize stripeN count = m at *
  generalize ringSize size = R at *
  go_enter Try.func5, Try.ntmps5
  go_wp2_with fail
  go_at_call 7
  refine (small_calls w0).mono ?_
  rintro e w1 ⟨rfl, hb1⟩
  go_wp2_with fail
  go_at_call 8
  refine (hd1 _ _ ((Owned.nil w0).under hb1)).mono ?_
  rintro e w2 ⟨g, r, rfl, hr, hO2⟩
  go_wp2_with fail
  go_at_call 16
  refine (hd2 _ _ hO2).mono ?_
  rintro e w3 ⟨g2, r2, rfl, hr2, hO3⟩
  obtain ⟨F, hO3⟩ : ∃ F, Owned w0 w3 (r2 ++ (r ++ F)) := ⟨[], hO3⟩
  have HO3 := Lib.hid (show SPl w0 F g g2 seed R m 0 w3 from ⟨_, _, r, r2, hr, hr2, by rw [sumG_zero]; omega, hO3.comm⟩)
  clear hr hr2 hO2 hO3 hd1 hd2
  go_wp2_with fail
  go_loopw [12] (fun x12 wr => ∃ k : Nat, k ≤ N ∧ x12 = .int .i64 k ∧ Hid (SPl w0 F g g2 seed R m k wr)) (fun x12 _ => N - (intOf x12).toNat)
  case atStart => exact ⟨0, Nat.zero_le _, rfl, HO3⟩
  case round =>
    clear HO3
    obtain ⟨k, hk, rfl, hrel⟩ := hrel
    obtain ⟨L, G, r, r2, hr, hr2, hs, hO⟩ := hrel.out
    clear hrel
    by_cases hlt : k < N
    · obtain ⟨b, off, rfl, hcell⟩ := HC.out (by omega)
      have TA := Lib.hid (two_at hcell hlt)
      clear hcell HC
      generalize f k 0 = t at *
      generalize f k 1 = x at *
      obtain ⟨cx0, cx1⟩ := TA.out _ _ hO
      obtain ⟨p, hp⟩ : ∃ p, plT seed t m = p := ⟨_, rfl⟩
      have hpm : p < m := by rw [← hp]; exact plT_lt _ _ m1
      have HP := Lib.hid hp
      have HLB := Lib.hid hr.bounds
      have HGB := Lib.hid (show ∀ i, i < m → G i + 1 ≤ 1000000 from fun i hi => by have := sumG_ge G i m hi; omega)
      have HS := Lib.hid hs
      clear hp hs
      go_upto_if 50 with (fail)
      go_cut [13] (fun x13 wc => x13 = .bool true ∧ Hid (SPl w0 F g g2 seed R m (k + 1) wc))
      case first =>
        by_cases hx1 : x = -1
        · have hx1' : (x == -1) = true := by rw [hx1]; rfl
          clear hx1
          rcases first_of L m with hnone | ⟨p, y, K, hp, hfirst, hL⟩
          · have CT := Lib.hid (st_take_none hnone hr hO)
            have CR := Lib.hid (fun (W : World) (r : Own) (h : Owned w0 W (r ++ (r2 ++ F))) => rst_take_none HLB.out hnone hr2 h.comm)
            clear hnone
            go_wp2_with fail
            go_at_call 17
            refine (CT.out).mono ?_
            rintro e w4 ⟨rfl, r4, hr4, hO4⟩
            go_wp2_with fail
            go_at_call 18
            refine (CR.out _ _ hO4).mono ?_
            rintro e w5 ⟨rfl, r5, hr5, hO5⟩
            go_wp2_with fail
            go_meet
            case rel => exact ⟨rfl, L, G, r4, r5, hr4, hr5, by have := HS.out; omega, hO5.comm⟩
          · have CT := Lib.hid (st_take_some hp hfirst hL hr hO)
            have CR := Lib.hid (fun (W : World) (r : Own) (h : Owned w0 W (r ++ (r2 ++ F))) => rst_take_some HLB.out hp hfirst hL hr2 h.comm)
            clear hfirst hL
            go_wp2_with fail
            go_at_call 17
            refine (CT.out).mono ?_
            rintro e w4 ⟨rfl, r4, hr4, hO4⟩
            go_wp2_with fail
            go_at_call 18
            refine (CR.out _ _ hO4).mono ?_
            rintro e w5 ⟨rfl, r5, hr5, hO5⟩
            go_wp2_with fail
            go_meet
            case rel => exact ⟨rfl, _, G, r4, r5, hr4, hr5, by have := HS.out; omega, hO5.comm⟩
        · have hx1' : (x == -1) = false := by simpa using hx1
          clear hx1
          by_cases hx2 : x = -2
          · have hx2' : (x == -2) = true := by rw [hx2]; rfl
            clear hx2
            have CLB := Lib.hid (show (catTo L m).length ≤ 9223372036854775807 by
              have h1 := catTo_len L m
              have h2 : ∀ j, j ≤ m → sumL L j ≤ 4096 * j := by
                intro j
                induction j with
                | zero => intro _; exact Nat.le_refl _
                | succ j ih =>
                  intro hj
                  have := ih (by omega)
                  have := HLB.out j (by omega)
                  rw [sumL]
                  omega
              have := h2 m (Nat.le_refl _)
              omega)
            go_wp2_with fail
            go_at_call 13
            refine (st_drain hr hO).mono ?_
            rintro e w4 ⟨v1, q1, r4, rfl, hrow1, hr4, hO4⟩
            go_wp2_with fail
            go_at_call 19
            refine (rst_drain HLB.out hr2 hO4.third).mono ?_
            rintro e w5 ⟨v2, q2, r5, rfl, hrow2, hr5, hO5⟩
            have hra : Reads w5 v1 (catTo L m) := reads_of_row hrow1 CLB.out hO5.third
            have hrb : Reads w5 v2 (catTo L m) := reads_of_row hrow2 CLB.out hO5
            go_wp2_with fail
            go_at_call 12
            refine (ints_b hra hrb).mono ?_
            rintro e w6 ⟨rfl, hb6⟩
            have HO6 := Lib.hid (show Owned w0 w6 (r4 ++ (r5 ++ F)) from ((hO5.drop_.comm.drop_).under hb6).comm)
            go_wp2_with fail
            go_meet
            case rel => exact ⟨rfl, _, G, r4, r5, hr4, hr5, by have := HS.out; omega, HO6.out⟩
          · have hx2' : (x == -2) = false := by simpa using hx2
            clear hx2
            obtain ⟨bt, hbt⟩ : ∃ bt, decide ((L p).length < R) = bt := ⟨_, rfl⟩
            have CX := Lib.hid (fun (W : World) (h : Owned w0 W (r ++ (r2 ++ F))) => st_offer t x HP.out hbt HGB.out hr h)
            have CY := Lib.hid (fun (W : World) (r : Own) (h : Owned w0 W (r ++ (r2 ++ F))) => rst_offer t x HP.out hbt HLB.out HGB.out hr2 h.comm)
            have HSG := Lib.hid (show sumG (offG R L G p) m ≤ k + 1 by
              have h1 := HS.out
              by_cases h2 : (L p).length < R
              · rw [offG_room h2]; omega
              · rw [offG_full h2]
                have := sumG_updF G p (G p + 1) m hpm
                omega)
            clear hbt
            have HO := Lib.hid hO
            cases bt
            all_goals
              go_wp2_with fail
              go_region_held3 (fun w' => w'.cell? ⟨b, off + k * 2, none⟩ = some (.int .i64 t) ∧ w'.cell? ⟨b, off + k * 2 + 1, none⟩ = some (.int .i64 x)) (first | exact ⟨cx0, cx1⟩ | exact ta5 | exact ta6)
                (first
                  | (go_at_call 10; (with_reducible refine (CX.out _ HO.out.drew).mono ?_); rintro e w5 ⟨rfl, r5, hr5, hO5⟩; have ta5 := TA.out _ _ hO5; have HR5 := Lib.hid hr5; have HO5 := Lib.hid hO5; clear hr5 hO5)
                  | (go_at_call 20; (with_reducible refine (CY.out _ _ HO5.out).mono ?_); rintro e w6 ⟨rfl, r6, hr6, hO6⟩; have ta6 := TA.out _ _ hO6; have HR6 := Lib.hid hr6; have HO6 := Lib.hid hO6; clear hr6 hO6))
              go_wp2_with fail
              go_meet
              case rel => exact ⟨rfl, _, _, r5, r6, HR5.out, HR6.out, HSG.out, HO6.out.comm⟩
      case rest =>
        obtain ⟨rfl, hrel⟩ := hcut
        clear hr hr2 hO HLB HGB HS cx0 cx1
        obtain ⟨L, G, r, r2, hr, hr2, hs, hO⟩ := hrel.out
        clear hrel
        have HLB := Lib.hid (show ∀ i, i < m → (L i).length ≤ 4096 ∧ G i ≤ 999999 from fun i hi => ⟨hr.bounds i hi, by have := sumG_ge G i m hi; omega⟩)
        have HO := Lib.hid hO
        have HRX := Lib.hid hr
        have HRY := Lib.hid hr2
        have HS := Lib.hid hs
        have ta0 := TA.out _ _ hO
        obtain ⟨sl, hsl⟩ : ∃ s, sumL L m = s := ⟨_, rfl⟩
        obtain ⟨sg, hsg⟩ : ∃ s, sumG G m = s := ⟨_, rfl⟩
        have C1 := Lib.hid (fun (W : World) (h : Owned w0 W (r ++ (r2 ++ F))) => (HP.out ▸ st_place t HRX.out h : Calls Try.prog 9 #[.pointer (some ⟨g, 0, none⟩), .int .i64 t] W fun e w' => e = .returned (.int .i64 (p : Nat)) ∧ Below W.heap.size W w'))
        have C2 := Lib.hid (fun (W : World) (h : Owned w0 W (r ++ (r2 ++ F))) => (HP.out ▸ rst_place t HRY.out h.comm : Calls Try.prog 21 #[.pointer (some ⟨g2, 0, none⟩), .int .i64 t] W fun e w' => e = .returned (.int .i64 (p : Nat)) ∧ Below W.heap.size W w'))
        have C3 := Lib.hid (fun (W : World) (h : Owned w0 W (r ++ (r2 ++ F))) => (hsl ▸ st_Len HRX.out h : Calls Try.prog 15 #[.pointer (some ⟨g, 0, none⟩)] W fun e w' => e = .returned (.int .i64 (sl : Nat)) ∧ W = w'))
        have C4 := Lib.hid (fun (W : World) (h : Owned w0 W (r ++ (r2 ++ F))) => (hsl ▸ rst_Len HLB.out HRY.out h.comm : Calls Try.prog 22 #[.pointer (some ⟨g2, 0, none⟩)] W fun e w' => e = .returned (.int .i64 (sl : Nat)) ∧ W = w'))
        have C5 := Lib.hid (fun (W : World) (h : Owned w0 W (r ++ (r2 ++ F))) => (hsg ▸ st_Lost HRX.out h : Calls Try.prog 14 #[.pointer (some ⟨g, 0, none⟩)] W fun e w' => e = .returned (.int .i64 (sg : Nat)) ∧ W = w'))
        have C6 := Lib.hid (fun (W : World) (h : Owned w0 W (r ++ (r2 ++ F))) => (hsg ▸ rst_Lost HLB.out HRY.out h.comm : Calls Try.prog 23 #[.pointer (some ⟨g2, 0, none⟩)] W fun e w' => e = .returned (.int .i64 (sg : Nat)) ∧ W = w'))
        have LL := Lib.hid (lensTo_len L m)
        clear hr hr2 hs hO hsl hsg
        go_wp2_with fail
        go_region_held3 (fun w' => w'.cell? ⟨b, off + k * 2, none⟩ = some (.int .i64 t) ∧ w'.cell? ⟨b, off + k * 2 + 1, none⟩ = some (.int .i64 x)) (first | exact ta0 | exact ta4 | exact ta5 | exact ta6 | exact ta7 | exact ta8)
          (first
            | (go_at_call 9; (with_reducible refine (C1.out _ HO.out.drew).mono ?_); rintro e w4 ⟨rfl, hb4⟩; have HO4 := Lib.hid (HO.out.drew.under hb4); have ta4 := TA.out _ _ HO4.out; clear hb4)
            | (go_at_call 21; (with_reducible refine (C2.out _ HO4.out).mono ?_); rintro e w5 ⟨rfl, hb5⟩; have HO5 := Lib.hid (HO4.out.under hb5); have ta5 := TA.out _ _ HO5.out; clear hb5)
            | (go_at_call 15; (with_reducible refine (C3.out _ HO5.out).mono ?_); rintro e w6 ⟨rfl, rfl⟩)
            | (go_at_call 22; (with_reducible refine (C4.out _ HO5.out).mono ?_); rintro e w6 ⟨rfl, rfl⟩)
            | (go_at_call 14; (with_reducible refine (C5.out _ HO5.out).mono ?_); rintro e w6 ⟨rfl, rfl⟩)
            | (go_at_call 23; (with_reducible refine (C6.out _ HO5.out).mono ?_); rintro e w6 ⟨rfl, rfl⟩)
            | (go_at_call 11; (with_reducible refine (st_lens HRX.out HO5.out).mono ?_); rintro e w6 ⟨v6, q6, rfl, hrow6, hO6⟩; have HROW6 := Lib.hid hrow6; have HO6 := Lib.hid hO6; have ta6 := TA.out _ _ HO6.out; clear hrow6 hO6)
            | (go_at_call 24; (with_reducible refine (rst_Lens HRY.out HO6.out.third).mono ?_); rintro e w7 ⟨v7, q7, rfl, hrow7, hO7⟩; have HROW7 := Lib.hid hrow7; have HO7 := Lib.hid hO7; have ta7 := TA.out _ _ HO7.out; clear hrow7 hO7)
            | (go_at_call 12; (with_reducible refine (ints_b (la := lensTo L m) (reads_of_row (by rw [LL.out]; exact HROW6.out) (by rw [LL.out]; omega) (Owned.third HO7.out)) (reads_of_row (by rw [LL.out]; exact HROW7.out) (by rw [LL.out]; omega) HO7.out)).mono ?_); rintro e w8 ⟨rfl, hb8⟩; have HO8 := Lib.hid (HO7.out.under hb8); have ta8 := TA.out _ _ HO8.out; clear hb8))
        have HO9 := Lib.hid (show Owned w0 w8 (r ++ (r2 ++ F)) from HO8.out.drop_.comm.drop_.comm)
        go_wp2_with fail
        go_roundw
        case rel => exact ⟨k + 1, by omega, by go_num, L, G, r, r2, HRX.out, HRY.out, by have := HS.out; omega, HO9.out⟩
        case measure => simp [intOf]; omega
    · obtain rfl : k = N := by omega
      have HLB := Lib.hid hr.bounds
      have CLB := Lib.hid (show (catTo L m).length ≤ 9223372036854775807 by
        have h1 := catTo_len L m
        have h2 : ∀ j, j ≤ m → sumL L j ≤ 4096 * j := by
          intro j
          induction j with
          | zero => intro _; exact Nat.le_refl _
          | succ j ih =>
            intro hj
            have := ih (by omega)
            have := HLB.out j (by omega)
            rw [sumL]
            omega
        have := h2 m (Nat.le_refl _)
        omega)
      go_wp2_with fail
      go_at_call 13
      refine (st_drain hr hO).mono ?_
      rintro e w4 ⟨v1, q1, r4, rfl, hrow1, hr4, hO4⟩
      go_wp2_with fail
      go_at_call 19
      refine (rst_drain HLB.out hr2 hO4.third).mono ?_
      rintro e w5 ⟨v2, q2, r5, rfl, hrow2, hr5, hO5⟩
      have hra : Reads w5 v1 (catTo L m) := reads_of_row hrow1 CLB.out hO5.third
      have hrb : Reads w5 v2 (catTo L m) := reads_of_row hrow2 CLB.out hO5
      go_wp2_with fail
      go_at_call 12
      refine (ints_b hra hrb).mono ?_
      rintro e w6 ⟨rfl, hb6⟩
      have hO6 := hO5.under hb6
      go_wp2_with fail
      go_ret
      exact ⟨rfl, hO6.below⟩
end Go.Proofs.Ytjhoipbffadcjaa
