/- The statements of layer 4: DoorPlays, the walk. -/
import Derived.Test.YthjdmgakgpcbfaaDoorRef2
import Derived.Test.YthjdmgakgpcbfaaDoorRef3
namespace Go.Proofs.Ythjdmgakgpcbfaa
open Go.RowKit Go.Sep DoorPure
set_option maxHeartbeats 800000 in
theorem plays_out (width seed : Int) (v : Value) (l : List Int) (w0 : World) (hv : Reads w0 v l) (h1 : 1024 < width ∨ (width ≤ 1024 ∧ 300 < l.length)) : Calls Try.prog 3 #[.int .i64 width, .int .i64 seed, v] w0 fun e w' => e = .returned (.bool true) ∧ Below w0.heap.size w0 w' := by
  obtain ⟨hl, A, c, rfl, _⟩ := hv
  rcases h1 with h1 | ⟨h1, h2⟩
  all_goals
    go_enter Try.func3, Try.ntmps3
    go_wp2_with fail
    go_at_call 7
    refine (small_calls w0).mono ?_
    rintro e w1 ⟨rfl, hb1⟩
    go_wp2_with fail
    go_ret
    exact ⟨rfl, hb1⟩
def PlaysRel (w0 : World) (F : Own) (g g2 b2 : Nat) (seed : Int) (w : World) : Prop := ∃ B r, DoorAt g seed B r ∧ Owned w0 w (r ++ (rdB g2 b2 seed B ++ F))
set_option maxHeartbeats 3200000 in
set_option maxRecDepth 100000 in
theorem plays_walk (width seed : Int) (v : Value) (l : List Int) (w0 : World) (hv : Reads w0 v l) (h1 : width ≤ 1024) (hshort : l.length ≤ 300) : Calls Try.prog 3 #[.int .i64 width, .int .i64 seed, v] w0 fun e w' => e = .returned (.bool true) ∧ Below w0.heap.size w0 w' := by
  obtain ⟨hl, A, c, rfl, hc⟩ := hv
  generalize hN : l.length = N at *
  have HN := Lib.hid hN
  clear hN
  have HC := Lib.hid hc
  clear hc
  have hS1 : 128 ≤ 8 * capN width ∧ 8 * capN width ≤ 524288 := by have := capN_in width; omega
  have hd := fun (w : World) (F : Own) (h : Owned w0 w F) => door_new width seed h
  have hd2 := fun (w : World) (F : Own) (h : Owned w0 w F) => rnew width seed h
  generalize 8 * capN width = S at *
  have hl0 : (List.replicate S false).length = S := List.length_replicate
  go_enter Try.func3, Try.ntmps3
  go_wp2_with fail
  go_at_call 7
  refine (small_calls w0).mono ?_
  rintro e w1 ⟨rfl, hb1⟩
  go_wp2_with fail
  go_at_call 8
  refine (hd _ _ ((Owned.nil w0).under hb1)).mono ?_
  rintro e w2 ⟨g, r, rfl, hr, hO2⟩
  go_wp2_with fail
  go_at_call 9
  refine (hd2 _ _ hO2).mono ?_
  rintro e w3 ⟨g2, b2, rfl, hO3⟩
  obtain ⟨F, hO3⟩ : ∃ F, Owned w0 w3 (r ++ (rdB g2 b2 seed (List.replicate S false) ++ F)) := ⟨[], hO3.comm⟩
  have cs : ∀ d os, Calls Try.prog 10 #[.pointer (some ⟨g, 0, none⟩)] (Go.Sort.grow (redrawn w3 d) os) fun e w' => e = .returned (.int .i64 (S : Int)) ∧ Below (Go.Sort.grow (redrawn w3 d) os).heap.size (Go.Sort.grow (redrawn w3 d) os) w' := fun d os => (d_size hl0 hr (hO3.under (below_regrown w3 d os))).mono (by rintro e w' ⟨rfl, rfl⟩; exact ⟨rfl, Below.refl _ _⟩)
  have c1 := rd_c1 hO3.comm
  rw [hl0] at c1
  replace c1 := cell_regrown c1
  have HR := Lib.hid (And.intro hr hO3)
  clear hd hd2 hO2 hO3 hr hl0
  go_wp2_with fail
  refine wp_region_quiet_below (by kernel_rfl) (by kernel_rfl) ?_
  repeat (first | go_big_quiet_step ((first | (go_at_call 10; with_reducible exact Calls.regrown_of (cs _ _)))) | quiet_step ((first | (go_at_call 10; with_reducible exact Calls.regrown_of (cs _ _)))))
  refine wpQuiet_nil ?_
  intro _ hw'
  obtain ⟨⟨dq, osq⟩, hw''⟩ := hw'
  subst hw''
  have HO := Lib.hid (HR.out.2.under (below_regrown _ dq osq))
  have hr := HR.out.1
  generalize (Go.Sort.grow (redrawn w3 dq) osq) = w4 at *
  clear cs c1 HR
  go_wp2_with fail
  go_loopw [10] (fun x10 wr => ∃ k : Nat, k ≤ N ∧ x10 = .int .i64 k ∧ Hid (PlaysRel w0 F g g2 b2 seed wr)) (fun x10 _ => N - (intOf x10).toNat)
  case atStart => exact ⟨0, Nat.zero_le _, rfl, _, r, hr, HO.out⟩
  case round =>
    obtain ⟨k, hk, rfl, hrel⟩ := hrel
    obtain ⟨B, r1, hr1, hO⟩ := hrel.out
    have hle := hr1.le
    clear HO hr
    by_cases hlt : k < N
    · obtain ⟨b, off, rfl, hcell⟩ := HC.out (by omega)
      have hcx : ∀ W (l' : Own), Owned w0 W l' → W.cell? ⟨b, off + k, none⟩ = some (.int .i64 (l.getD k 0)) := fun W l' h => (h.below.cell (p := ⟨b, off + k, none⟩) (World.block_lt_of_cell? _ _ (hcell k hlt))).trans (hcell k hlt)
      generalize l.getD k 0 = x at *
      have HX := Lib.hid hcx
      have cx := HX.out _ _ hO
      have HO := Lib.hid hO
      clear hcell hcx hO hrel HC
      by_cases hx : x = -1
      · have hx' : (x == -1) = true := by rw [hx]; rfl
        clear hx
        have hl2 : (List.replicate B.length false).length = B.length := List.length_replicate
        have LE := Lib.hid hle
        have L2 := Lib.hid hl2
        clear hl2 hle
        go_wp2_with fail
        go_at_call 11
        refine (door_clear hr1 HO.out).mono ?_
        rintro e w5 ⟨r5, rfl, hr5, hO5⟩
        go_wp2_with fail
        go_at_call 12
        refine (rclear (by have := LE.out; omega) hO5.comm).mono ?_
        rintro e w6 ⟨rfl, hO6⟩
        have hO6' := hO6.comm
        generalize hB : List.replicate B.length false = B' at *
        obtain ⟨n, hn⟩ : ∃ n, cnt B' = n := ⟨_, rfl⟩
        obtain ⟨q, hq⟩ : ∃ q, hasB seed (k : Int) B' = q := ⟨_, rfl⟩
        have co := rones (by rw [L2.out]; have := LE.out; omega) hO6
        have ch := fun W (h : Owned w0 W (rdB g2 b2 seed B' ++ (r5 ++ F))) => rhas (k : Int) (by rw [L2.out]; have := LE.out; omega) (by rw [L2.out]; have := LE.out; omega) h
        rw [hn] at co
        rw [hq] at ch
        have HNN := Lib.hid hn
        have HQ := Lib.hid hq
        clear hn hq hB
        have HO6 := Lib.hid hO6'
        clear hO6 hO6' hO5 HO
        go_wp2_with fail
        go_at_call 15
        refine (d_ones HNN.out hr5 HO6.out).mono ?_
        rintro e w7 ⟨rfl, rfl⟩
        go_wp2_with fail
        go_at_call 16
        refine (co).mono ?_
        rintro e w7 ⟨rfl, rfl⟩
        go_wp2_with fail
        go_at_call 17
        refine (d_has (k : Int) HQ.out hr5 HO6.out).mono ?_
        rintro e w7 ⟨rfl, hO7⟩
        go_wp2_with fail
        go_at_call 18
        refine (ch _ hO7.comm).mono ?_
        rintro e w8 ⟨rfl, hb8⟩
        have HO8 := Lib.hid (hO7.under hb8)
        clear hO7 hb8 HO6 co ch
        go_wp2_with fail
        go_roundw
        case rel => exact ⟨k + 1, by omega, by go_num, _, r5, hr5, HO8.out⟩
        case measure => simp [intOf]; omega
      · have hx' : (x == -1) = false := by rw [beq_eq_false_iff_ne]; exact hx
        clear hx
        have LE := Lib.hid hle
        have PL := Lib.hid (putB_len seed x B)
        clear hle
        obtain ⟨p, hp⟩ : ∃ p, hasB seed x B = p := ⟨_, rfl⟩
        have HP := Lib.hid hp
        have cp := fun W l' (h : Owned w0 W (rdB g2 b2 seed B ++ l')) => rput x (by have := LE.out; omega) (by have := LE.out; omega) h
        rw [hp] at cp
        clear hp
        go_wp2_with fail
        go_region_with (first
          | (go_at_call 13; (with_reducible refine (d_put x HP.out hr1 HO.out.drew).mono ?_); rintro e w5 ⟨r5, rfl, hr5, hO5⟩; have HO5 := Lib.hid hO5; clear hO5; have cx5 := HX.out _ _ HO5.out)
          | (go_at_call 14; (with_reducible refine (cp _ _ (Owned.comm HO5.out)).mono ?_); rintro e w6 ⟨rfl, hO6⟩; have HO6 := Lib.hid (Owned.comm hO6); clear hO6))
        all_goals
          generalize hB : putB seed x B = B' at *
          obtain ⟨n, hn⟩ : ∃ n, cnt B' = n := ⟨_, rfl⟩
          obtain ⟨q, hq⟩ : ∃ q, hasB seed (k : Int) B' = q := ⟨_, rfl⟩
          have co := rones (by rw [PL.out]; have := LE.out; omega) (Owned.comm HO6.out)
          have ch := fun W (h : Owned w0 W (rdB g2 b2 seed B' ++ (r5 ++ F))) => rhas (k : Int) (by rw [PL.out]; have := LE.out; omega) (by rw [PL.out]; have := LE.out; omega) h
          rw [hn] at co
          rw [hq] at ch
          have HNN := Lib.hid hn
          have HQ := Lib.hid hq
          clear hn hq hB cp HO HO5 cx cx5
          go_wp2_with fail
          go_at_call 15
          refine (d_ones HNN.out hr5 HO6.out).mono ?_
          rintro e w7 ⟨rfl, rfl⟩
          go_wp2_with fail
          go_at_call 16
          refine (co).mono ?_
          rintro e w7 ⟨rfl, rfl⟩
          go_wp2_with fail
          go_at_call 17
          refine (d_has (k : Int) HQ.out hr5 HO6.out).mono ?_
          rintro e w7 ⟨rfl, hO7⟩
          go_wp2_with fail
          go_at_call 18
          refine (ch _ hO7.comm).mono ?_
          rintro e w8 ⟨rfl, hb8⟩
          have HO8 := Lib.hid (hO7.under hb8)
          clear hO7 hb8 HO6 co ch
          go_wp2_with fail
          go_roundw
          case rel => exact ⟨k + 1, by omega, by go_num, _, r5, hr5, HO8.out⟩
          case measure => simp [intOf]; omega
    · have HO := Lib.hid hO
      clear hO hrel
      go_wp2_with fail
      go_ret
      exact ⟨rfl, HO.out.below⟩
end Go.Proofs.Ythjdmgakgpcbfaa
