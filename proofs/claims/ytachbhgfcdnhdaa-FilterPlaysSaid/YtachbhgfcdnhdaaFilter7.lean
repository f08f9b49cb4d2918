/- The statements of layer 5: FilterPlays, the walk. -/
import Derived.Test.YtachbhgfcdnhdaaFilter6
namespace Go.Proofs.Ytachbhgfcdnhdaa
open Go.RowKit NibPure Go.Sep DoorPure
set_option maxHeartbeats 800000 in
theorem fplays_out (cap seed other : Int) (v : Value) (l : List Int) (w0 : World) (hv : Reads w0 v l) (h1 : 1024 < cap ∨ (cap ≤ 1024 ∧ 600 < l.length)) : Calls Try.prog 3 #[.int .i64 cap, .int .i64 seed, v, .int .i64 other] w0 fun e w' => e = .returned (.bool true) ∧ Below w0.heap.size w0 w' := by
  obtain ⟨hl, A, cp, rfl, _⟩ := hv
  rcases h1 with h1 | ⟨h1, h2⟩
  all_goals
    go_enter Try.func3, Try.ntmps3
    go_wp2_with fail
    go_at_call 7
    refine (small_calls w0).mono ?_
    rintro e w1 ⟨rfl, hb1⟩
    go_wp2_with fail
    go_ret
    exact ⟨rfl, hb1⟩
def FPl (w0 : World) (F : Own) (g g2 : Nat) (seed : Int) (n k : Nat) (w : World) : Prop := ∃ st r r2, FilterAt g seed n st r ∧ RefF g2 seed n st r2 ∧ st.A ≤ k ∧ Owned w0 w (r ++ (r2 ++ F))
set_option maxHeartbeats 6400000 in
set_option maxRecDepth 100000 in
theorem fplays_walk (cap seed other : Int) (v : Value) (l : List Int) (w0 : World) (hv : Reads w0 v l) (h1 : cap ≤ 1024) (hshort : l.length ≤ 600) : Calls Try.prog 3 #[.int .i64 cap, .int .i64 seed, v, .int .i64 other] w0 fun e w' => e = .returned (.bool true) ∧ Below w0.heap.size w0 w' := by
  obtain ⟨hl, A, cp, rfl, hc⟩ := hv
  generalize hN : l.length = N at *
  have HN := Lib.hid hN
  clear hN
  have HC := Lib.hid hc
  clear hc
  have hd := fun (w : World) (F : Own) (h : Owned w0 w F) => f_new cap seed h
  have hd2 := fun (w : World) (F : Own) (h : Owned w0 w F) => rf_new cap seed h
  obtain ⟨n, hnn⟩ : ∃ n, wordN cap = n := ⟨_, rfl⟩
  rw [hnn] at hd hd2
  have hA0 : (FSt.new cap).A = 0 := rfl
  have A0 := Lib.hid hA0
  clear hnn hA0
  generalize FSt.new cap = s0 at *
  go_enter Try.func3, Try.ntmps3
  go_wp2_with fail
  go_at_call 7
  refine (small_calls w0).mono ?_
  rintro e w1 ⟨rfl, hb1⟩
  go_wp2_with fail
  go_at_call 8
  refine (hd _ _ ((Owned.nil w0).under hb1)).mono ?_
  rintro e w2 ⟨g, r, rfl, hr, hO2⟩
  go_wp2_with fail
  go_at_call 9
  refine (hd2 _ _ hO2).mono ?_
  rintro e w3 ⟨g2, r2, rfl, hr2, hO3⟩
  obtain ⟨F, hO3⟩ : ∃ F, Owned w0 w3 (r ++ (r2 ++ F)) := ⟨[], hO3.comm⟩
  have HO2 := Lib.hid (show FPl w0 F g g2 seed n 0 w3 from ⟨s0, r, r2, hr, hr2, by rw [A0.out]; omega, hO3⟩)
  clear hr hO2 hd hd2 A0 hr2 hO3
  go_wp2_with fail
  go_loopw [12, 13, 14] (fun x12 _ _ wr => ∃ k : Nat, k ≤ N ∧ x12 = .int .i64 k ∧ Hid (FPl w0 F g g2 seed n k wr)) (fun x12 _ _ _ => N - (intOf x12).toNat)
  case atStart => exact ⟨0, Nat.zero_le _, rfl, HO2⟩
  case round =>
    clear HO2
    obtain ⟨k, hk, rfl, hrel⟩ := hrel
    obtain ⟨st, r1, r2, hr1, hr2, hA, hO⟩ := hrel.out
    clear hrel
    by_cases hlt : k < N
    · obtain ⟨b', off, rfl, hcell⟩ := HC.out (by omega)
      have HX := Lib.hid (show ∀ W (l' : Own), Owned w0 W l' → W.cell? ⟨b', off + k, none⟩ = some (.int .i64 (l.getD k 0)) from fun W l' h => (h.below.cell (p := ⟨b', off + k, none⟩) (World.block_lt_of_cell? _ _ (hcell k hlt))).trans (hcell k hlt))
      clear hcell HC
      obtain ⟨x, hx⟩ : ∃ x, l.getD k 0 = x := ⟨_, rfl⟩
      rw [hx] at HX
      clear hx
      have cx := HX.out _ _ hO
      obtain ⟨st', hst⟩ : ∃ s, st.next seed n x = s := ⟨_, rfl⟩
      have hA' := st.next_A seed n x
      rw [hst] at hA'
      have A2 := Lib.hid (show st'.A ≤ k + 1 by omega)
      have ST := Lib.hid hst
      have q : st.A ≤ 1000000 := by omega
      obtain ⟨o, ho⟩ : ∃ o, st'.often seed n x = o := ⟨_, rfl⟩
      obtain ⟨o2, ho2⟩ : ∃ o, st'.often seed n other = o := ⟨_, rfl⟩
      obtain ⟨o3, ho3⟩ : ∃ o, st'.often seed n (k : Int) = o := ⟨_, rfl⟩
      obtain ⟨bt, hbt⟩ : ∃ t, decide (o2 < o) = t := ⟨_, rfl⟩
      have O1 := Lib.hid ho
      have O2 := Lib.hid ho2
      have O3 := Lib.hid ho3
      have BT := Lib.hid hbt
      have NN := Lib.hid hr1.n_le.2
      have CR := Lib.hid (f_record x ST.out q hr1 hO)
      have CR2 := Lib.hid (fun (W : World) (r' : Own) (h : Owned w0 W (r' ++ (r2 ++ F))) => rf_record x ST.out q NN.out hr2 h.comm)
      clear hst hA' hA ho ho2 ho3
      go_wp2_with fail
      go_at_call 10
      refine (CR.out).mono ?_
      rintro e w4 ⟨rfl, r4, hr4, hO4⟩
      have cx4 := HX.out _ _ hO4
      clear hr1 hO cx
      go_wp2_with fail
      go_at_call 11
      refine (CR2.out _ _ hO4).mono ?_
      rintro e w5 ⟨rfl, r5, hr5, hO5⟩
      have HO5 := Lib.hid hO5.comm
      have cx5 := HX.out _ _ HO5.out
      clear hr2 hO4 cx4 hO5
      go_wp2_with fail
      go_at_call 12
      refine (rf_often x O1.out hr5 HO5.out.comm).mono ?_
      rintro e w6 ⟨rfl, hO6⟩
      go_wp2_with fail
      go_at_call 12
      refine (rf_often other O2.out hr5 hO6).mono ?_
      rintro e w7 ⟨rfl, hO7⟩
      have HO7 := Lib.hid hO7.comm
      clear hO6 hO7 cx5 HO5
      have ca := fun d os => f_oftenB x O1.out hr4 (HO7.out.under (below_regrown w7 d os))
      have cb := fun d os => f_oftenB other O2.out hr4 (HO7.out.under (below_regrown w7 d os))
      have cc := fun d os => (f_ages hr4 (HO7.out.under (below_regrown w7 d os))).mono (R' := fun e w' => e = .returned (.int .i64 (st'.A : Int)) ∧ Below (Go.Sort.grow (redrawn w7 d) os).heap.size (Go.Sort.grow (redrawn w7 d) os) w') (by rintro e w' ⟨rfl, rfl⟩; exact ⟨rfl, Below.refl _ _⟩)
      have cd := fun d os => calls_below (HO7.out.under (below_regrown w7 d os)) (fun _ _ h => f_better x other O1.out O2.out BT.out hr4 h)
      have ce := fun d os => f_oftenB (k : Int) O3.out hr4 (HO7.out.under (below_regrown w7 d os))
      have cf := fun d os => calls_below ((HO7.out.under (below_regrown w7 d os)).comm) (fun _ _ h => rf_often (k : Int) O3.out hr5 h)
      have cx7 := cell_regrown (HX.out _ _ HO7.out)
      have cg := cell_regrown (hr5.ages HO7.out.comm)
      have hbt2 : decide ((o2 : Int) < (o : Int)) = bt := by rw [← hbt]; simp
      have k3 : ((k : Nat) : Int) < (N : Int) := by omega
      have k4 : (0 : Int) ≤ ((k : Nat) : Int) := by omega
      generalize hgA : st'.A = a at *
      have GA := Lib.hid hgA
      clear hgA
      have HR := Lib.hid (And.intro hr4 hr5)
      clear hr4 hr5
      cases bt
      all_goals
        go_wp2_with fail
        refine wp_region_quiet_below (by kernel_rfl) (by kernel_rfl) ?_
        repeat (first | go_big_quiet_step ((first | (go_at_call 13; with_reducible exact Calls.regrown_of (ca _ _)) | (go_at_call 13; with_reducible exact Calls.regrown_of (cb _ _)) | (go_at_call 14; with_reducible exact Calls.regrown_of (cc _ _)) | (go_at_call 15; with_reducible exact Calls.regrown_of (cd _ _)) | (go_at_call 13; with_reducible exact Calls.regrown_of (ce _ _)) | (go_at_call 12; with_reducible exact Calls.regrown_of (cf _ _)))) | quiet_step ((first | (go_at_call 13; with_reducible exact Calls.regrown_of (ca _ _)) | (go_at_call 13; with_reducible exact Calls.regrown_of (cb _ _)) | (go_at_call 14; with_reducible exact Calls.regrown_of (cc _ _)) | (go_at_call 15; with_reducible exact Calls.regrown_of (cd _ _)) | (go_at_call 13; with_reducible exact Calls.regrown_of (ce _ _)) | (go_at_call 12; with_reducible exact Calls.regrown_of (cf _ _)))))
        refine wpQuiet_nil ?_
        intro _ hw'
        obtain ⟨⟨dq, osq⟩, hw''⟩ := hw'
        subst hw''
        have HO8 := Lib.hid (HO7.out.under (below_regrown _ dq osq))
        clear ca cb cc cd ce cf cx7 cg
        go_wp2_with fail
        go_roundw
        case rel => exact ⟨k + 1, by omega, by go_num, st', r4, r5, HR.out.1, HR.out.2, by rw [GA.out]; exact A2.out, HO8.out⟩
        case measure => simp [intOf]; omega
    · obtain rfl : k = N := by omega
      go_wp2_with fail
      go_ret
      exact ⟨rfl, hO.below⟩
end Go.Proofs.Ytachbhgfcdnhdaa
