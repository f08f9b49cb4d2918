/- Layer 11, PolicySingle: of nodes of one key the one that came into probation last goes: the walk. -/
import Derived.Test.YtnhdjpeadhcajaaK50
namespace Go.Proofs.Ytnhdjpeadhcajaa
open Go.RowKit Go.Sep DqPure
set_option maxRecDepth 100000
section
variable {w0 : World}
set_option maxHeartbeats 3200000 in
theorem psgl_out (cap seed n : Int) (h1 : cap < 2 ∨ (2 ≤ cap ∧ 50 < cap) ∨ ((2 ≤ cap ∧ cap ≤ 50) ∧ n < 0) ∨ ((2 ≤ cap ∧ cap ≤ 50) ∧ 0 ≤ n ∧ 100 < n) ∨ ((2 ≤ cap ∧ cap ≤ 50) ∧ (0 ≤ n ∧ n ≤ 100) ∧ 10 * cap ≤ n)) :
    Calls Try.prog 4 #[.int .i64 cap, .int .i64 seed, .int .i64 n] w0 fun e w' => e = .returned (.bool true) ∧ Below w0.heap.size w0 w' := by
  obtain ⟨F, hF⟩ : ∃ F : Sep.Own, [] = F := ⟨_, rfl⟩
  have hO0 : Owned w0 w0 F := by rw [← hF]; exact Owned.nil w0
  have cs := small_own hO0
  clear hF hO0
  rcases h1 with h1 | ⟨h1, h2⟩ | ⟨⟨h1, h2⟩, h3⟩ | ⟨⟨h1, h2⟩, h3, h4⟩ | ⟨⟨h1, h2⟩, ⟨h3, h4⟩, h5⟩
  · go_enter Try.func4, Try.ntmps4
    go_wp2_with fail
    go_at_call 9
    refine (cs).mono ?_
    rintro e w1 ⟨rfl, hO1⟩
    have q1 := y_new cap seed hO1
    go_wp2_with fail
    go_at_call 10
    refine (q1).mono ?_
    rintro e w2 ⟨g, rfl, hs2⟩
    have hbl := hs2.below
    clear q1 hs2 hO1 cs
    go_wp2_with fail
    go_ret
    exact ⟨rfl, hbl⟩
  · go_enter Try.func4, Try.ntmps4
    go_wp2_with fail
    go_at_call 9
    refine (cs).mono ?_
    rintro e w1 ⟨rfl, hO1⟩
    have q1 := y_new cap seed hO1
    go_wp2_with fail
    go_at_call 10
    refine (q1).mono ?_
    rintro e w2 ⟨g, rfl, hs2⟩
    have hbl := hs2.below
    clear q1 hs2 hO1 cs
    go_wp2_with fail
    go_ret
    exact ⟨rfl, hbl⟩
  · go_enter Try.func4, Try.ntmps4
    go_wp2_with fail
    go_at_call 9
    refine (cs).mono ?_
    rintro e w1 ⟨rfl, hO1⟩
    have q1 := y_new cap seed hO1
    go_wp2_with fail
    go_at_call 10
    refine (q1).mono ?_
    rintro e w2 ⟨g, rfl, hs2⟩
    have hbl := hs2.below
    clear q1 hs2 hO1 cs
    go_wp2_with fail
    go_ret
    exact ⟨rfl, hbl⟩
  · go_enter Try.func4, Try.ntmps4
    go_wp2_with fail
    go_at_call 9
    refine (cs).mono ?_
    rintro e w1 ⟨rfl, hO1⟩
    have q1 := y_new cap seed hO1
    go_wp2_with fail
    go_at_call 10
    refine (q1).mono ?_
    rintro e w2 ⟨g, rfl, hs2⟩
    have hbl := hs2.below
    clear q1 hs2 hO1 cs
    go_wp2_with fail
    go_ret
    exact ⟨rfl, hbl⟩
  · go_enter Try.func4, Try.ntmps4
    go_wp2_with fail
    go_at_call 9
    refine (cs).mono ?_
    rintro e w1 ⟨rfl, hO1⟩
    have q1 := y_new cap seed hO1
    go_wp2_with fail
    go_at_call 10
    refine (q1).mono ?_
    rintro e w2 ⟨g, rfl, hs2⟩
    have hbl := hs2.below
    clear q1 hs2 hO1 cs
    go_wp2_with fail
    go_ret
    exact ⟨rfl, hbl⟩
set_option maxHeartbeats 12800000 in
theorem psgl_walk (C N : Nat) (seed : Int) (h1 : 2 ≤ C ∧ C ≤ 50) (h2 : N ≤ 100) (h3 : N < 10 * C) :
    Calls Try.prog 4 #[.int .i64 (C : Int), .int .i64 seed, .int .i64 (N : Int)] w0 fun e w' => e = .returned (.bool true) ∧ Below w0.heap.size w0 w' := by
  obtain ⟨F, hF⟩ : ∃ F : Sep.Own, [] = F := ⟨_, rfl⟩
  have hO0 : Owned w0 w0 F := by rw [← hF]; exact Owned.nil w0
  have cs := small_own hO0
  have HSG := Lib.hid (Sg.new h1.1 h1.2 seed)
  have g1 : decide ((C : Int) < 2) = false := decide_eq_false (by omega)
  have g2 : decide (50 < (C : Int)) = false := decide_eq_false (by omega)
  have g3 : decide ((N : Int) < 0) = false := decide_eq_false (by omega)
  have g4 : decide (100 < (N : Int)) = false := decide_eq_false (by omega)
  have g5 : decide (10 * (C : Int) ≤ (N : Int)) = false := decide_eq_false (by omega)
  have g6 : decide (C < 2) = false := decide_eq_false (by omega)
  have g7 : decide (50 < C) = false := decide_eq_false (by omega)
  have g8 : decide (100 < N) = false := decide_eq_false (by omega)
  have g9 : decide (10 * C ≤ N) = false := decide_eq_false (by omega)
  clear hF hO0
  go_enter Try.func4, Try.ntmps4
  go_wp2_with fail
  go_at_call 9
  refine (cs).mono ?_
  rintro e w1 ⟨rfl, hO1⟩
  have q1 := y_new (C : Int) seed hO1
  clear cs hO1
  go_wp2_with fail
  go_at_call 10
  refine (q1).mono ?_
  rintro e w2 ⟨g, rfl, hs2⟩
  have HS2 := Lib.hid hs2
  clear q1 hs2
  go_wp2_with fail
  go_loopw [9] (fun x9 wr => ∃ i : Nat, i ≤ N ∧ x9 = .int .i64 ((i : Int) + 1) ∧ Hid (∃ P, Sg C i P ∧ Stands w0 F g (2 * i) P wr)) (fun x9 _ => N + 1 - (intOf x9).toNat)
  case atStart => exact ⟨0, Nat.zero_le _, rfl, Lib.hid ⟨_, HSG.out, HS2.out⟩⟩
  case round =>
    obtain ⟨i, hi, rfl, hp⟩ := hrel
    obtain ⟨P, hsg, hs⟩ := hp.out
    clear hp HS2 HSG
    by_cases hlt : i < N
    · obtain ⟨P', hact, hsg'⟩ := hsg.step h1 (by omega) (by omega)
      have q2 := y_do hs (by omega) 1 ((i : Int) + 1) 7 1 (wfk_of (by omega) (by omega)) (wfk_of (by omega) (by omega))
      rw [hact] at q2
      have HG := Lib.hid hsg'
      clear hsg hact hsg' hs
      have d0 : decide ((i : Int) + 1 ≤ (N : Int)) = true := decide_eq_true (by omega)
      by_cases hle : i + 1 ≤ C
      · rw [if_pos hle] at q2
        have d1 : decide ((i : Int) + 1 ≤ (C : Int)) = true := decide_eq_true (by omega)
        have d2 : decide ((C : Int) < (i : Int) + 1) = false := decide_eq_false (by omega)
        go_wp2_with fail
        go_at_call 12
        refine (q2).mono ?_
        rintro e w3 ⟨v3, r3, rfl, hr3, hs3⟩
        obtain ⟨A3, c3, rfl⟩ := hr3.slice
        have HS3 := Lib.hid (hs3.sub (List.sublist_append_right r3 F))
        clear q2 hr3 hs3
        go_wp2_with fail
        go_roundw
        case rel => exact ⟨i + 1, hlt, by go_num, Lib.hid ⟨P', HG.out, HS3.out⟩⟩
        case measure => simp [intOf]; omega
      · rw [if_neg hle] at q2
        have d1 : decide ((i : Int) + 1 ≤ (C : Int)) = false := decide_eq_false (by omega)
        have d2 : decide ((C : Int) < (i : Int) + 1) = true := decide_eq_true (by omega)
        go_wp2_with fail
        go_at_call 12
        refine (q2).mono ?_
        rintro e w3 ⟨v3, r3, rfl, hr3, hs3⟩
        replace hr3 : Row 3 1 v3 [(i : Int)].length (ints [(i : Int)]) r3 := hr3
        have hs4 := hs3.under (show Below _ _ (w3.alloc (.cells (ints [(i : Int)]).toArray 3)) from (Below.refl _ _).alloc (Nat.le_refl _) _)
        have hi1 := ints_calls v3 _ _ _ _ (hs4.reads hr3) (reads_lit w3 [(i : Int)] 3 (by simp))
        rw [decide_eq_true rfl] at hi1
        have HS4 := Lib.hid (hs4.sub (List.sublist_append_right r3 F))
        clear q2 hr3 hs3 hs4
        go_wp2_with fail
        go_at_call 15
        refine (hi1).mono ?_
        rintro e w5 ⟨rfl, m5, rfl⟩
        have hs5 := HS4.out.under (show Below _ _ ((w3.alloc (.cells (ints [(i : Int)]).toArray 3)).drewN m5) from ⟨rfl, rfl, rfl, Nat.le_refl _, fun _ _ => rfl⟩)
        have HS5 := Lib.hid hs5
        clear hi1 HS4 hs5
        generalize ((w3.alloc (.cells (ints [(i : Int)]).toArray 3)).drewN m5) = w5 at *
        go_wp2_with fail
        go_roundw
        case rel => exact ⟨i + 1, hlt, by go_num, Lib.hid ⟨P', HG.out, HS5.out⟩⟩
        case measure => simp [intOf]; omega
    · obtain rfl : i = N := by omega
      obtain ⟨y1, y2⟩ := hsg.wt h1.1
      have d0 : decide ((i : Int) + 1 ≤ (i : Int)) = false := decide_eq_false (by omega)
      rcases Nat.lt_trichotomy i C with hc | rfl | hc
      · have q3 := y_weight hs (by omega)
        rw [y1, show min i C = i by omega] at q3
        have HS3 := Lib.hid hs
        have HY2 := Lib.hid y2
        clear hsg hs y1 y2
        go_wp2_with fail
        go_at_call 14
        refine (q3).mono ?_
        rintro e w4 ⟨rfl, hb4⟩
        have q4 := y_row (HS3.out.under hb4) (by omega) 2
        rw [HY2.out] at q4
        clear q3 HS3
        go_wp2_with fail
        go_at_call 13
        refine (q4).mono ?_
        rintro e w5 ⟨v5, r5, rfl, hr5, hs5⟩
        obtain ⟨A5, c5, rfl⟩ := hr5.slice
        have hbl := hs5.below
        clear q4 hr5 hs5
        go_wp2_with fail
        go_ret
        exact ⟨rfl, hbl⟩
      · have q3 := y_weight hs (by omega)
        rw [y1, show min i i = i by omega] at q3
        have HS3 := Lib.hid hs
        have HY2 := Lib.hid y2
        clear hsg hs y1 y2
        go_wp2_with fail
        go_at_call 14
        refine (q3).mono ?_
        rintro e w4 ⟨rfl, hb4⟩
        have q4 := y_row (HS3.out.under hb4) (by omega) 2
        rw [HY2.out] at q4
        clear q3 HS3
        go_wp2_with fail
        go_at_call 13
        refine (q4).mono ?_
        rintro e w5 ⟨v5, r5, rfl, hr5, hs5⟩
        obtain ⟨A5, c5, rfl⟩ := hr5.slice
        have hbl := hs5.below
        clear q4 hr5 hs5
        go_wp2_with fail
        go_ret
        exact ⟨rfl, hbl⟩
      · have q3 := y_weight hs (by omega)
        rw [y1, show min i C = C by omega] at q3
        have HS3 := Lib.hid hs
        have HY2 := Lib.hid y2
        clear hsg hs y1 y2
        go_wp2_with fail
        go_at_call 14
        refine (q3).mono ?_
        rintro e w4 ⟨rfl, hb4⟩
        have q4 := y_row (HS3.out.under hb4) (by omega) 2
        rw [HY2.out] at q4
        clear q3 HS3
        go_wp2_with fail
        go_at_call 13
        refine (q4).mono ?_
        rintro e w5 ⟨v5, r5, rfl, hr5, hs5⟩
        obtain ⟨A5, c5, rfl⟩ := hr5.slice
        have hbl := hs5.below
        clear q4 hr5 hs5
        go_wp2_with fail
        go_ret
        exact ⟨rfl, hbl⟩
theorem psgl_all (cap seed n : Int) : Calls Try.prog 4 #[.int .i64 cap, .int .i64 seed, .int .i64 n] w0 fun e w' => e = .returned (.bool true) ∧ Below w0.heap.size w0 w' := by
  by_cases h : (2 ≤ cap ∧ cap ≤ 50) ∧ (0 ≤ n ∧ n ≤ 100) ∧ n < 10 * cap
  · obtain ⟨h1, h2, h3⟩ := h
    obtain ⟨C, rfl⟩ : ∃ C : Nat, cap = (C : Int) := ⟨cap.toNat, by omega⟩
    obtain ⟨N, rfl⟩ : ∃ N : Nat, n = (N : Int) := ⟨n.toNat, by omega⟩
    exact psgl_walk C N seed (by omega) (by omega) (by omega)
  · exact psgl_out cap seed n (by omega)
end
end Go.Proofs.Ytnhdjpeadhcajaa
