/- The statements of layer 3: SketchAges, the walk. -/
import Derived.Test.YtpdboglgjpmcdaaSketch12
namespace Go.Proofs.Ytpdboglgjpmcdaa
open Go.RowKit NibPure Go.Sep
set_option maxHeartbeats 800000 in
theorem ages_out (seed more : Int) (v : Value) (l : List Int) (w0 : World) (hv : Reads w0 v l) (h1 : 300 < l.length ∨ (l.length ≤ 300 ∧ more < 0) ∨ (l.length ≤ 300 ∧ 0 ≤ more ∧ 200 < more)) : Calls Try.prog 5 #[.int .i64 seed, v, .int .i64 more] w0 fun e w' => e = .returned (.bool true) ∧ Below w0.heap.size w0 w' := by
  obtain ⟨hl, A, c, rfl, _⟩ := hv
  rcases h1 with h1 | ⟨h1, h2⟩ | ⟨h1, h2, h3⟩
  all_goals
    go_enter Try.func5, Try.ntmps5
    go_wp2_with fail
    go_at_call 7
    refine (small_calls w0).mono ?_
    rintro e w1 ⟨rfl, hb1⟩
    go_wp2_with fail
    go_at_call 8
    refine (s_new 1 seed ((Owned.nil w0).under hb1)).mono ?_
    rintro e w2 ⟨g, r, rfl, hr, hO2⟩
    go_wp2_with fail
    go_ret
    exact ⟨rfl, hO2.below⟩
def AgesRel (w0 : World) (F : Own) (g : Nat) (seed : Int) (w : World) : Prop := ∃ S r N, SkAt g seed 1 N S r ∧ Owned w0 w (r ++ F)
/-- an add, one of three ways -/
theorem s_add3 {g N : Nat} {seed : Int} {S : Nat → Nat → Nat} {w0 w : World} {F r : Own} (key : Int) (hr : SkAt g seed 1 N S r) (h : Owned w0 w (r ++ F)) :
    ∃ more aged : Bool, ∃ N2 : Nat, Calls Try.prog 12 #[.pointer (some ⟨g, 0, none⟩), .int .i64 key] w (fun e w' =>
      e = .returned (.tuple #[.bool more, .bool aged]) ∧ ∃ r' S', SkAt g seed 1 N2 S' r' ∧ Owned w0 w' (r' ++ F)) ∧
      ((more = true ∧ aged = true ∧ N = 159 ∧ N2 = 80) ∨ (more = true ∧ aged = false ∧ N < 159 ∧ N2 = N + 1) ∨ (more = false ∧ aged = false ∧ N < 160 ∧ N2 = N)) := by
  have hn := hr.n_le
  obtain ⟨more, hm⟩ : ∃ m, anyS S (plS seed key (16 * 1)) 4 = m := ⟨_, rfl⟩
  obtain ⟨aged, ha⟩ : ∃ a, (more && decide (160 * 1 ≤ N + 1)) = a := ⟨_, rfl⟩
  refine ⟨more, aged, numOf N more aged, (s_add key rfl hm ha hr h).mono ?_, ?_⟩
  · rintro e w' ⟨rfl, r', hr', hO'⟩
    exact ⟨rfl, r', _, hr', hO'⟩
  · unfold numOf
    cases more with
    | false => 
      obtain rfl : aged = false := by rw [← ha]; rfl
      exact Or.inr (Or.inr ⟨rfl, rfl, by omega, rfl⟩)
    | true =>
      by_cases h1 : 160 * 1 ≤ N + 1
      · obtain rfl : aged = true := by rw [← ha, decide_eq_true h1]; rfl
        exact Or.inl ⟨rfl, rfl, by omega, by rw [if_pos rfl]; omega⟩
      · obtain rfl : aged = false := by rw [← ha, decide_eq_false h1]; rfl
        exact Or.inr (Or.inl ⟨rfl, rfl, by omega, rfl⟩)
set_option maxHeartbeats 3200000 in
set_option maxRecDepth 100000 in
theorem ages_walk (seed : Int) (v : Value) (l : List Int) (M : Nat) (w0 : World) (hv : Reads w0 v l) (hshort : l.length ≤ 300) (hM : M ≤ 200) : Calls Try.prog 5 #[.int .i64 seed, v, .int .i64 (M : Int)] w0 fun e w' => e = .returned (.bool true) ∧ Below w0.heap.size w0 w' := by
  obtain ⟨hl, A, c, rfl, hc⟩ := hv
  generalize hN : l.length = N at *
  have HN := Lib.hid hN
  clear hN
  have HC := Lib.hid hc
  clear hc
  have hw4 : wordN 1 = 1 := by decide
  have hd := fun (w : World) (h : Owned w0 w ([] : Own)) => s_new 1 seed h
  rw [hw4] at hd
  clear hw4
  go_enter Try.func5, Try.ntmps5
  go_wp2_with fail
  go_at_call 7
  refine (small_calls w0).mono ?_
  rintro e w1 ⟨rfl, hb1⟩
  go_wp2_with fail
  go_at_call 8
  refine (hd _ ((Owned.nil w0).under hb1)).mono ?_
  rintro e w2 ⟨g, r, rfl, hr, hO2⟩
  obtain ⟨F, hO2⟩ : ∃ F, Owned w0 w2 (r ++ F) := ⟨[], hO2⟩
  clear hd
  have HO2 := Lib.hid (show AgesRel w0 F g seed w2 from ⟨_, r, 0, hr, hO2⟩)
  clear hr hO2
  go_wp2_with fail
  go_loopw [9] (fun x9 wr => ∃ k : Nat, k ≤ N + M ∧ x9 = .int .i64 k ∧ Hid (AgesRel w0 F g seed wr)) (fun x9 _ => N + M - (intOf x9).toNat)
  case atStart => exact ⟨0, Nat.zero_le _, rfl, HO2⟩
  case round =>
    clear HO2
    obtain ⟨k, hk, rfl, hrel⟩ := hrel
    obtain ⟨S, r1, N1, hr1, hO⟩ := hrel.out
    clear hrel
    by_cases hlt : k < N + M
    · have hlt1 : decide ((k : Int) < (N : Int) + (M : Int)) = true := decide_eq_true (by omega)
      by_cases hkN : k < N
      · obtain ⟨b, off, rfl, hcell⟩ := HC.out (by omega)
        have cx := (hO.below.cell (p := ⟨b, off + k, none⟩) (World.block_lt_of_cell? _ _ (hcell k hkN))).trans (hcell k hkN)
        generalize l.getD k 0 = x at *
        clear hcell HC
        obtain ⟨more, aged, N2, ca, hway⟩ := s_add3 x hr1 hO
        rcases hway with ⟨rfl, rfl, h3, rfl⟩ | ⟨rfl, rfl, h3, rfl⟩ | ⟨rfl, rfl, h3, rfl⟩
        · have t2 : (((N1 : Nat) : Int) == 159) = true := by rw [beq_iff_eq]; omega
          obtain rfl := h3
          go_wp2_with fail
          go_at_call 18
          refine (s_samples hr1 hO).mono ?_
          rintro e w3 ⟨rfl, rfl⟩
          go_wp2_with fail
          go_at_call 12
          refine (ca).mono ?_
          rintro e w4 ⟨rfl, r4, S4, hr4, hO4⟩
          clear hr1 hO
          go_wp2_with fail
          go_at_call 18
          refine (s_samples hr4 hO4).mono ?_
          rintro e w5 ⟨rfl, rfl⟩
          go_wp2_with fail
          go_at_call 18
          refine (s_samples hr4 hO4).mono ?_
          rintro e w5 ⟨rfl, rfl⟩
          go_wp2_with fail
          go_roundw
          case rel => exact ⟨k + 1, by omega, by go_num, _, r4, _, hr4, hO4⟩
          case measure => simp [intOf]; omega
        · have t2 : (((N1 : Nat) : Int) == 159) = false := by rw [beq_eq_false_iff_ne]; omega
          have t3 : decide ((160 : Int) ≤ (N1 : Int) + 1) = false := decide_eq_false (by omega)
          go_wp2_with fail
          go_at_call 18
          refine (s_samples hr1 hO).mono ?_
          rintro e w3 ⟨rfl, rfl⟩
          go_wp2_with fail
          go_at_call 12
          refine (ca).mono ?_
          rintro e w4 ⟨rfl, r4, S4, hr4, hO4⟩
          clear hr1 hO
          go_wp2_with fail
          go_at_call 18
          refine (s_samples hr4 hO4).mono ?_
          rintro e w5 ⟨rfl, rfl⟩
          go_wp2_with fail
          go_at_call 18
          refine (s_samples hr4 hO4).mono ?_
          rintro e w5 ⟨rfl, rfl⟩
          go_wp2_with fail
          go_roundw
          case rel => exact ⟨k + 1, by omega, by go_num, _, r4, _, hr4, hO4⟩
          case measure => simp [intOf]; omega
        · skip
          have t3 : decide ((160 : Int) ≤ (N2 : Int)) = false := decide_eq_false (by omega)
          go_wp2_with fail
          go_at_call 18
          refine (s_samples hr1 hO).mono ?_
          rintro e w3 ⟨rfl, rfl⟩
          go_wp2_with fail
          go_at_call 12
          refine (ca).mono ?_
          rintro e w4 ⟨rfl, r4, S4, hr4, hO4⟩
          clear hr1 hO
          go_wp2_with fail
          go_at_call 18
          refine (s_samples hr4 hO4).mono ?_
          rintro e w5 ⟨rfl, rfl⟩
          go_wp2_with fail
          go_at_call 18
          refine (s_samples hr4 hO4).mono ?_
          rintro e w5 ⟨rfl, rfl⟩
          go_wp2_with fail
          go_roundw
          case rel => exact ⟨k + 1, by omega, by go_num, _, r4, _, hr4, hO4⟩
          case measure => simp [intOf]; omega
      · have hkN' : decide (k < N) = false := decide_eq_false hkN
        obtain ⟨x, hx⟩ : ∃ x : Int, 1000 + (k : Int) = x := ⟨_, rfl⟩
        obtain ⟨more, aged, N2, ca, hway⟩ := s_add3 (1000 + (k : Int)) hr1 hO
        clear HC
        rcases hway with ⟨rfl, rfl, h3, rfl⟩ | ⟨rfl, rfl, h3, rfl⟩ | ⟨rfl, rfl, h3, rfl⟩
        · obtain rfl := h3
          clear hx
          go_wp2_with fail
          go_at_call 18
          refine (s_samples hr1 hO).mono ?_
          rintro e w3 ⟨rfl, rfl⟩
          go_wp2_with fail
          go_at_call 12
          refine (ca).mono ?_
          rintro e w4 ⟨rfl, r4, S4, hr4, hO4⟩
          clear hr1 hO
          go_wp2_with fail
          go_at_call 18
          refine (s_samples hr4 hO4).mono ?_
          rintro e w5 ⟨rfl, rfl⟩
          go_wp2_with fail
          go_at_call 18
          refine (s_samples hr4 hO4).mono ?_
          rintro e w5 ⟨rfl, rfl⟩
          go_wp2_with fail
          go_roundw
          case rel => exact ⟨k + 1, by omega, by go_num, _, r4, _, hr4, hO4⟩
          case measure => simp [intOf]; omega
        · have t2 : (((N1 : Nat) : Int) == 159) = false := by rw [beq_eq_false_iff_ne]; omega
          clear hx
          have t3 : decide ((160 : Int) ≤ (N1 : Int) + 1) = false := decide_eq_false (by omega)
          go_wp2_with fail
          go_at_call 18
          refine (s_samples hr1 hO).mono ?_
          rintro e w3 ⟨rfl, rfl⟩
          go_wp2_with fail
          go_at_call 12
          refine (ca).mono ?_
          rintro e w4 ⟨rfl, r4, S4, hr4, hO4⟩
          clear hr1 hO
          go_wp2_with fail
          go_at_call 18
          refine (s_samples hr4 hO4).mono ?_
          rintro e w5 ⟨rfl, rfl⟩
          go_wp2_with fail
          go_at_call 18
          refine (s_samples hr4 hO4).mono ?_
          rintro e w5 ⟨rfl, rfl⟩
          go_wp2_with fail
          go_roundw
          case rel => exact ⟨k + 1, by omega, by go_num, _, r4, _, hr4, hO4⟩
          case measure => simp [intOf]; omega
        · clear hx
          have t3 : decide ((160 : Int) ≤ (N2 : Int)) = false := decide_eq_false (by omega)
          go_wp2_with fail
          go_at_call 18
          refine (s_samples hr1 hO).mono ?_
          rintro e w3 ⟨rfl, rfl⟩
          go_wp2_with fail
          go_at_call 12
          refine (ca).mono ?_
          rintro e w4 ⟨rfl, r4, S4, hr4, hO4⟩
          clear hr1 hO
          go_wp2_with fail
          go_at_call 18
          refine (s_samples hr4 hO4).mono ?_
          rintro e w5 ⟨rfl, rfl⟩
          go_wp2_with fail
          go_at_call 18
          refine (s_samples hr4 hO4).mono ?_
          rintro e w5 ⟨rfl, rfl⟩
          go_wp2_with fail
          go_roundw
          case rel => exact ⟨k + 1, by omega, by go_num, _, r4, _, hr4, hO4⟩
          case measure => simp [intOf]; omega
    · obtain rfl : k = N + M := by omega
      have hlt1 : decide (((N + M : Nat) : Int) < (N : Int) + (M : Int)) = false := decide_eq_false (by omega)
      have hlt2 : decide ((N : Int) + (M : Int) < (N : Int) + (M : Int)) = false := decide_eq_false (by omega)
      go_wp2_with fail
      go_at_call 17
      refine (s_row 2 (K := 2) rfl (by omega) hr1 hO).mono ?_
      rintro e w3 ⟨v3, q3, rfl, hrow3, hO3⟩
      go_wp2_with fail
      go_at_call 10
      refine (s_halve hr1 hO3.comm).mono ?_
      rintro e w4 ⟨rfl, r4, hr4, hO4⟩
      go_wp2_with fail
      go_at_call 17
      refine (s_row 2 (K := 2) rfl (by omega) hr4 hO4).mono ?_
      rintro e w5 ⟨v5, q5, rfl, hrow5, hO5⟩
      have hd3 := reads_of_row (l := rowN S 2 (16 * 1)) (by rw [rowN_len]; exact hrow3) (by rw [rowN_len]; omega) hO5.third
      have hd5 := reads_of_row (l := rowN (fun i c => S i c / 2) 2 (16 * 1)) (by rw [rowN_len]; exact hrow5) (by rw [rowN_len]; omega) hO5
      rw [Reads, rowN_len] at hd3 hd5
      obtain ⟨_, A3, c3, rfl, hc3⟩ := hd3
      obtain ⟨_, A5, c5, rfl, hc5⟩ := hd5
      obtain ⟨b3, o3, rfl, hcc3⟩ := hc3 (by omega)
      obtain ⟨b5, o5, rfl, hcc5⟩ := hc5 (by omega)
      have H3 := Lib.hid (show ∀ i, i < 16 → ∀ W (l' : Own), Owned w5 W l' → W.cell? ⟨b3, o3 + i, none⟩ = some (.int .i64 ((S 2 i : Nat) : Int)) from fun i hi W l' h => by
        have e := hcc3 i (by omega)
        rw [rowN_get _ _ _ _ (by omega)] at e
        exact (h.below.cell (p := ⟨b3, o3 + i, none⟩) (World.block_lt_of_cell? _ _ e)).trans e)
      have H5 := Lib.hid (show ∀ i, i < 16 → ∀ W (l' : Own), Owned w5 W l' → W.cell? ⟨b5, o5 + i, none⟩ = some (.int .i64 (((S 2 i : Nat) : Int) / 2)) from fun i hi W l' h => by
        have e := hcc5 i (by omega)
        rw [rowN_get _ _ _ _ (by omega)] at e
        have e2 : (((S 2 i / 2 : Nat)) : Int) = ((S 2 i : Nat) : Int) / 2 := by omega
        rw [← e2]
        exact (h.below.cell (p := ⟨b5, o5 + i, none⟩) (World.block_lt_of_cell? _ _ e)).trans e)
      have HB := Lib.hid hO5.below
      have HLO := Lib.hid (show ∀ i, i < 16 → S 2 i ≤ 15 from fun i hi => hr1.lo (by omega) (by omega))
      have hO6 := Owned.nil w5
      clear hr1 hO hrow3 hO3 hr4 hO4 hrow5 hO5 hc3 hc5 hcc3 hcc5
      have HO6 := Lib.hid hO6
      clear hO6
      go_wp2_with fail
      go_loopw [16] (fun x16 wr => ∃ i : Nat, i ≤ 16 ∧ x16 = .int .i64 i ∧ Hid (Owned w5 wr ([] : Own))) (fun x16 _ => 16 - (intOf x16).toNat)
      case atStart => exact ⟨0, Nat.zero_le _, rfl, HO6⟩
      case round =>
        clear HO6
        obtain ⟨i, hi, rfl, hrel⟩ := hrel
        by_cases hli : i < 16
        · have d3 := cell_regrown (H3.out i hli _ _ hrel.out)
          have d5 := cell_regrown (H5.out i hli _ _ hrel.out)
          have hx := HLO.out i hli
          generalize S 2 i = x at *
          have hwr : IntKind.i64.wrap ((x : Int) / 2) = (x : Int) / 2 := by rw [IntKind.wrap_i64]; omega
          go_wp2_with fail
          refine wp_region_quiet_below (by kernel_rfl) (by kernel_rfl) ?_
          repeat (first | go_big_quiet_step (fail) | quiet_step (fail))
          refine wpQuiet_nil ?_
          intro _ hw'
          obtain ⟨⟨dq, osq⟩, hw''⟩ := hw'
          subst hw''
          have HO7 := Lib.hid (hrel.out.under (below_regrown _ dq osq))
          go_wp2_with fail
          go_roundw
          case rel => exact ⟨i + 1, by omega, by go_num, HO7⟩
          case measure => simp [intOf]; omega
        · obtain rfl : i = 16 := by omega
          go_wp2_with fail
          go_ret
          exact ⟨rfl, HB.out.trans (hrel.out.below.mono HB.out.size)⟩
end Go.Proofs.Ytpdboglgjpmcdaa
