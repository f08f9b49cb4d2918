/- The statements of layer 3: SketchPlays, the walk. -/
import Derived.Test.YtpdboglgjpmcdaaSketchPlays
namespace Go.Proofs.Ytpdboglgjpmcdaa
open Go.RowKit NibPure Go.Sep
set_option maxHeartbeats 800000 in
theorem plays_out (cap seed : Int) (v : Value) (l : List Int) (w0 : World) (hv : Reads w0 v l) (h1 : 1024 < cap ∨ (cap ≤ 1024 ∧ 400 < l.length)) : Calls Try.prog 3 #[.int .i64 cap, .int .i64 seed, v] w0 fun e w' => e = .returned (.bool true) ∧ Below w0.heap.size w0 w' := by
  obtain ⟨hl, A, c, rfl, _⟩ := hv
  rcases h1 with h1 | ⟨h1, h2⟩
  all_goals
    go_enter Try.func3, Try.ntmps3
    go_wp2_with fail
    go_at_call 7
    refine (small_calls w0).mono ?_
    rintro e w1 ⟨rfl, hb1⟩
    go_wp2_with fail
    go_ret
    exact ⟨rfl, hb1⟩
def PlRel3 (w0 : World) (F : Own) (g g2 n : Nat) (seed : Int) (bs : Nat → Nat) (w : World) : Prop := ∃ S r N, SkAt g seed n N S r ∧ Owned w0 w (r ++ (rsB g2 seed (16 * n) N bs S ++ F)) ∧ Lo S
def OverRel (w0 : World) (F : Own) (b : Nat) (w : World) : Prop := ∃ cur, Owned w0 w ((b, .cells cur 3 (0, 0)) :: F)
set_option maxHeartbeats 3200000 in
set_option maxRecDepth 100000 in
theorem plays_walk (cap seed : Int) (v : Value) (l : List Int) (w0 : World) (hv : Reads w0 v l) (h1 : cap ≤ 1024) (hshort : l.length ≤ 400) : Calls Try.prog 3 #[.int .i64 cap, .int .i64 seed, v] w0 fun e w' => e = .returned (.bool true) ∧ Below w0.heap.size w0 w' := by
  obtain ⟨hl, A, c, rfl, hc⟩ := hv
  generalize hN : l.length = N at *
  have HN := Lib.hid hN
  clear hN
  have HC := Lib.hid hc
  clear hc
  have hd := fun (w : World) (F : Own) (h : Owned w0 w F) => s_new cap seed h
  have hd2 := fun (w : World) (F : Own) (h : Owned w0 w F) => rs_new cap seed h
  have hn := wordN_16 cap
  obtain ⟨n, hnn⟩ : ∃ n, wordN cap = n := ⟨_, rfl⟩
  rw [hnn] at hd hd2 hn
  obtain ⟨_, n1, n2⟩ := hn
  obtain ⟨P, hP⟩ : ∃ P : Int → Nat → Nat, ∀ x, plS seed x (16 * n) = P x := ⟨_, fun _ => rfl⟩
  have HP := Lib.hid hP
  clear hP hnn
  go_enter Try.func3, Try.ntmps3
  go_wp2_with fail
  go_at_call 7
  refine (small_calls w0).mono ?_
  rintro e w1 ⟨rfl, hb1⟩
  go_wp2_with fail
  go_at_call 8
  refine (hd _ _ ((Owned.nil w0).under hb1)).mono ?_
  rintro e w2 ⟨g, r, rfl, hr, hO2⟩
  go_wp2_with fail
  go_at_call 9
  refine (hd2 _ _ hO2).mono ?_
  rintro e w3 ⟨g2, bs, rfl, hO3⟩
  obtain ⟨F, hO3⟩ : ∃ F, Owned w0 w3 (r ++ (rsB g2 seed (16 * n) 0 bs (fun _ _ => 0) ++ F)) := ⟨[], hO3.comm⟩
  clear hd hd2
  have HO2 := Lib.hid (show PlRel3 w0 F g g2 n seed bs w3 from ⟨_, r, 0, hr, hO3, fun _ _ => Nat.zero_le _⟩)
  clear hr hO2 hO3
  go_wp2_with fail
  go_loopw [10] (fun x10 wr => ∃ k : Nat, k ≤ N ∧ x10 = .int .i64 k ∧ Hid (PlRel3 w0 F g g2 n seed bs wr)) (fun x10 _ => N - (intOf x10).toNat)
  case atStart => exact ⟨0, Nat.zero_le _, rfl, HO2⟩
  case round =>
    clear HO2
    obtain ⟨k, hk, rfl, hrel⟩ := hrel
    obtain ⟨S, r1, N1, hr1, hO, hlo⟩ := hrel.out
    have HLO := Lib.hid hlo
    have hNb := hr1.n_le.2
    have NB := Lib.hid hNb
    clear hrel hlo hNb
    by_cases hlt : k < N
    · obtain ⟨b, off, rfl, hcell⟩ := HC.out (by omega)
      have hcx : ∀ W (l' : Own), Owned w0 W l' → W.cell? ⟨b, off + k, none⟩ = some (.int .i64 (l.getD k 0)) := fun W l' h => (h.below.cell (p := ⟨b, off + k, none⟩) (World.block_lt_of_cell? _ _ (hcell k hlt))).trans (hcell k hlt)
      generalize l.getD k 0 = x at *
      have HX := Lib.hid hcx
      have cx := HX.out _ _ hO
      clear hcell hcx HC
      by_cases hx : x = -1
      · have hx' : (x == -1) = true := by rw [hx]; rfl
        clear hx
        go_wp2_with fail
        go_at_call 10
        refine (s_halve hr1 hO).mono ?_
        rintro e w5 ⟨rfl, r5, hr5, hO5⟩
        clear hr1 hO cx
        go_wp2_with fail
        go_at_call 11
        refine (rs_halve HLO.out (by omega) (by have := NB.out; omega) hO5.comm).mono ?_
        rintro e w6 ⟨rfl, hO6⟩
        have HO6 := Lib.hid (And.intro hr5 hO6.comm)
        clear hr5 hO5 hO6
        go_wp2_with fail
        go_roundw
        case rel => exact ⟨k + 1, by omega, by go_num, _, r5, _, HO6.out.1, HO6.out.2, half_lo HLO.out⟩
        case measure => simp [intOf]; omega
      · have hx' : (x == -1) = false := by rw [beq_eq_false_iff_ne]; exact hx
        clear hx
        obtain ⟨more, hmore⟩ : ∃ m, anyS S (P x) 4 = m := ⟨_, rfl⟩
        obtain ⟨aged, haged⟩ : ∃ a, (more && decide (160 * n ≤ N1 + 1)) = a := ⟨_, rfl⟩
        obtain ⟨S', hS'⟩ : ∃ S', addOf S (P x) aged = S' := ⟨_, rfl⟩
        obtain ⟨N2, hN2⟩ : ∃ N', numOf N1 more aged = N' := ⟨_, rfl⟩
        obtain ⟨m1, hm1⟩ : ∃ m, mnS S' (P x) 4 = m := ⟨_, rfl⟩
        obtain ⟨o1, ho1⟩ : ∃ m, mnS S' (P (k : Int)) 4 = m := ⟨_, rfl⟩
        have hlo' : Lo S' := by rw [← hS']; exact addOf_lo HLO.out _ _
        have hm1' : mnD S' (P x) 4 = m1 := by rw [mnD_four hlo', hm1]
        have ho1' : mnD S' (P (k : Int)) 4 = o1 := by rw [mnD_four hlo', ho1]
        have haged' : (more && decide (10 * (16 * n) ≤ N1 + 1)) = aged := by rw [← haged, show 10 * (16 * n) = 160 * n by omega]
        have MR := Lib.hid hmore
        have AG := Lib.hid haged
        have AG' := Lib.hid haged'
        have SS := Lib.hid hS'
        have NN := Lib.hid hN2
        have M1 := Lib.hid hm1
        have O1 := Lib.hid ho1
        have M1' := Lib.hid hm1'
        have O1' := Lib.hid ho1'
        have LO' := Lib.hid hlo'
        clear hmore haged hS' hN2 hm1 ho1 hlo' hm1' ho1' haged'
        go_wp2_with fail
        go_at_call 12
        refine (s_add x (HP.out x) MR.out AG.out hr1 hO).mono ?_
        rintro e w5 ⟨rfl, r5, hr5, hO5⟩
        rw [NN.out, SS.out] at hr5
        have cx5 := HX.out _ _ hO5
        have HR5 := Lib.hid hr5
        clear hr1 hO cx hr5
        go_wp2_with fail
        go_at_call 13
        refine (rs_add x HLO.out (by omega) (by omega) (by have := NB.out; omega) (HP.out x) MR.out AG'.out hO5.comm).mono ?_
        rintro e w6 ⟨rfl, hO6⟩
        rw [NN.out, SS.out] at hO6
        have HO6 := Lib.hid hO6.comm
        clear hO5 cx5 hO6
        have ca := fun d os => s_countB x (HP.out x) M1.out HR5.out (HO6.out.under (below_regrown w6 d os))
        have cb := fun d os => rs_count x (show 1 ≤ 16 * n by omega) (by omega) (HP.out x) M1'.out ((HO6.out.under (below_regrown w6 d os)).comm)
        have cc := fun d os => s_countB (k : Int) (HP.out _) O1.out HR5.out (HO6.out.under (below_regrown w6 d os))
        have cd := fun d os => rs_count (k : Int) (show 1 ≤ 16 * n by omega) (by omega) (HP.out _) O1'.out ((HO6.out.under (below_regrown w6 d os)).comm)
        have cx6 := cell_regrown (HX.out _ _ HO6.out)
        have k3 : ((k : Nat) : Int) < (N : Int) := by omega
        have k4 : (0 : Int) ≤ ((k : Nat) : Int) := by omega
        go_wp2_with fail
        refine wp_region_quiet_below (by kernel_rfl) (by kernel_rfl) ?_
        repeat (first | go_big_quiet_step ((first | (go_at_call 14; with_reducible exact Calls.regrown_of (ca _ _)) | (go_at_call 15; with_reducible exact Calls.regrown_of (cb _ _)) | (go_at_call 14; with_reducible exact Calls.regrown_of (cc _ _)) | (go_at_call 15; with_reducible exact Calls.regrown_of (cd _ _)))) | quiet_step ((first | (go_at_call 14; with_reducible exact Calls.regrown_of (ca _ _)) | (go_at_call 15; with_reducible exact Calls.regrown_of (cb _ _)) | (go_at_call 14; with_reducible exact Calls.regrown_of (cc _ _)) | (go_at_call 15; with_reducible exact Calls.regrown_of (cd _ _)))))
        refine wpQuiet_nil ?_
        intro _ hw'
        obtain ⟨⟨dq, osq⟩, hw''⟩ := hw'
        subst hw''
        have HO7 := Lib.hid (HO6.out.under (below_regrown _ dq osq))
        clear ca cb cc cd cx6
        go_wp2_with fail
        go_roundw
        case rel => exact ⟨k + 1, by omega, by go_num, S', r5, N2, HR5.out, HO7.out, LO'.out⟩
        case measure => simp [intOf]; omega
    · obtain rfl : k = N := by omega
      have hn1 : 1 ≤ n := n1
      go_wp2_with fail
      go_at_call 16
      refine (same_calls hr1 hO).mono ?_
      rintro e w4 ⟨rfl, hO4⟩
      clear hO
      go_wp2_with fail
      go_at_call 17
      refine (s_row 0 (K := 0) rfl (by omega) hr1 hO4).mono ?_
      rintro e w5 ⟨v5, q5, rfl, hrow5, hO5⟩
      clear hO4
      obtain ⟨b5, cap5, hv5, hq5, hle⟩ : ∃ b5 cap5 , v5 = .slice (some ⟨b5, 0, none⟩) (16 * n) cap5 ∧ (∃ cur, q5 = [(b5, .cells cur 3 (0, 0))] ∧ cur.size = cap5) ∧ 16 * n ≤ cap5 := by
        rcases hrow5.2 with ⟨_, h0, _⟩ | ⟨g5, c5, cur, h1, h2, h3, _, h4, _⟩
        · omega
        · exact ⟨g5, c5, h1, ⟨cur, h2, by omega⟩, h3⟩
      obtain ⟨cur, rfl, hcs⟩ := hq5
      subst hv5
      obtain ⟨G, hG⟩ : ∃ G, r1 ++ (rsB g2 seed (16 * n) N1 bs S ++ F) = G := ⟨_, rfl⟩
      have HG := Lib.hid hG
      have HCS : Hid (∀ cs : Array Value, cs.size = cap5 → ∀ i, i < 16 * n → ∃ u, cs[i]? = some u) := fun cs h i hi => ⟨cs[i], Array.getElem?_eq_getElem (by omega)⟩
      have HO5 := Lib.hid (show ∃ cur : Array Value, cur.size = cap5 ∧ Owned w0 w5 ((b5, .cells cur 3 (0, 0)) :: G) from ⟨cur, hcs, by rw [← hG]; exact hO5⟩)
      have HW : 16 * n ≤ 65536 := by omega
      have HR1 := Lib.hid hr1
      clear hO5 hcs hrow5 hG hr1
      generalize hW : 16 * n = W at *
      have HWW := Lib.hid hW
      clear hW
      go_wp2_with fail
      go_loopw [17] (fun x17 wr => ∃ i : Nat, i ≤ W ∧ x17 = .int .i64 i ∧ Hid (∃ cur : Array Value, cur.size = cap5 ∧ Owned w0 wr ((b5, .cells cur 3 (0, 0)) :: G))) (fun x17 _ => W - (intOf x17).toNat)
      case atStart => exact ⟨0, Nat.zero_le _, rfl, HO5⟩
      case round =>
        clear HO5
        obtain ⟨i, hi, rfl, hrel⟩ := hrel
        obtain ⟨cur2, hcs2, hO6⟩ := hrel.out
        clear hrel
        by_cases hli : i < W
        · obtain ⟨u, hu⟩ := HCS.out cur2 hcs2 i hli
          have cu := (Owned.cell hO6 i).trans hu
          have cf := Owned.frozen hO6 i
          have HNEW := Lib.hid (show ∃ cur : Array Value, cur.size = cap5 ∧ Owned w0 (wr.setCell ⟨b5, i, none⟩ (.int .i64 (-7))) ((b5, .cells cur 3 (0, 0)) :: G) from ⟨_, by rw [Array.size_setIfInBounds]; exact hcs2, Owned.set hO6 i _⟩)
          clear hO6 hcs2 hu
          go_wp2_with fail
          go_roundw
          case rel => exact ⟨i + 1, by omega, by go_num, HNEW⟩
          case measure => simp [intOf]; omega
        · obtain rfl : i = W := by omega
          have hO7 : Owned w0 wr ([(b5, Obj.cells cur2 3 (0, 0))] ++ (r1 ++ (rsB g2 seed i N1 bs S ++ F))) := by rw [HG.out]; exact hO6
          rw [← HWW.out] at hO7
          have hO8 := hO7.back3
          have hr1 := HR1.out
          clear hO6 hO7 hcs2
          go_wp2_with fail
          go_at_call 16
          refine (same_calls hr1 hO8).mono ?_
          rintro e w9 ⟨rfl, hO9⟩
          clear hO8
          go_wp2_with fail
          go_at_call 17
          refine (sk_row_out (-1) (Or.inl (by omega)) _).mono ?_
          rintro e w10 ⟨rfl, rfl⟩
          go_wp2_with fail
          go_ret
          exact ⟨rfl, hO9.below⟩
end Go.Proofs.Ytpdboglgjpmcdaa
