/- The statements of layer 7: DequePlays, the walk. -/
import Derived.Test.YtlnokijfmkldkaaRefDq8
import Derived.Test.YtlnokijfmkldkaaDq18
import Derived.Deep.RegionHeld3
namespace Go.Proofs.Ytlnokijfmkldkaa
open Go.RowKit Go.Sep DqPure Go.Lib
def PlRel (w0 : World) (F : Sep.Own) (bx g m k : Nat) (w : World) : Prop := ∃ st n r s, DqAt bx m n st r ∧ RdAt g m st s ∧ Owned w0 w (r ++ (s ++ F)) ∧ n ≤ k
section
variable {w0 : World}
set_option maxHeartbeats 800000 in
set_option maxRecDepth 100000 in
theorem plays_out (lists : Int) (u : Value) (N : Nat) (f : Nat → Nat → Int) (hu : ReadsR 4 w0 u N f) (h2 : 150 < N) : Calls Try.prog 6 #[.int .i64 lists, u] w0 fun e w' => e = .returned (.bool true) ∧ Below w0.heap.size w0 w' := by
  obtain ⟨hl2, hbd, A2, c2, rfl, _⟩ := hu
  clear hbd
  go_enter Try.func6, Try.ntmps6
  go_wp2_with fail
  go_at_call 8
  refine (dq_small w0).mono ?_
  rintro e w1 ⟨rfl, hb1⟩
  go_wp2_with fail
  go_at_call 9
  refine (dq_new lists ((Owned.nil w0).under hb1)).mono ?_
  rintro e w2 ⟨g, r, rfl, hr, hO2⟩
  go_wp2_with fail
  go_at_call 20
  refine (rd_new lists hO2).mono ?_
  rintro e w3 ⟨g2, s, rfl, hs, hO3⟩
  go_wp2_with fail
  go_ret
  exact ⟨rfl, hO3.below⟩
set_option maxHeartbeats 6400000 in
set_option maxRecDepth 100000 in
theorem plays_walk (lists : Int) (u : Value) (N : Nat) (f : Nat → Nat → Int) (hu : ReadsR 4 w0 u N f) (h2 : N ≤ 150) : Calls Try.prog 6 #[.int .i64 lists, u] w0 fun e w' => e = .returned (.bool true) ∧ Below w0.heap.size w0 w' := by
  obtain ⟨hl2, hbd, A2, c2, rfl, hc2⟩ := hu
  have HC := Lib.hid hc2
  have HBD := Lib.hid hbd
  clear hc2 hbd
  have hd := fun (w : World) (F : Sep.Own) (h : Owned w0 w F) => dq_new lists h
  have hd2 := fun (w : World) (F : Sep.Own) (h : Owned w0 w F) => rd_new lists h
  obtain ⟨m, hm⟩ : ∃ m, rowsN lists = m := ⟨_, rfl⟩
  rw [hm] at hd hd2
  clear hm
  go_enter Try.func6, Try.ntmps6
  go_wp2_with fail
  go_at_call 8
  refine (dq_small w0).mono ?_
  rintro e w1 ⟨rfl, hb1⟩
  go_wp2_with fail
  go_at_call 9
  refine (hd _ _ ((Owned.nil w0).under hb1)).mono ?_
  rintro e w2 ⟨bx, r, rfl, hr, hO2⟩
  go_wp2_with fail
  go_at_call 20
  refine (hd2 _ _ hO2).mono ?_
  rintro e w3 ⟨g, s, rfl, hs, hO3⟩
  obtain ⟨F, hO3⟩ : ∃ F, Owned w0 w3 (s ++ (r ++ F)) := ⟨[], hO3⟩
  have HO3 := Lib.hid (show PlRel w0 F bx g m 0 w3 from ⟨_, 0, r, s, hr, hs, hO3.comm, Nat.le_refl _⟩)
  clear hr hs hO2 hO3 hd hd2
  go_wp2_with fail
  go_loopw [8] (fun x8 wr => ∃ i : Nat, i ≤ N ∧ x8 = .int .i64 (i : Int) ∧ Hid (PlRel w0 F bx g m i wr)) (fun x8 _ => N - (intOf x8).toNat)
  case atStart => exact ⟨0, Nat.zero_le _, rfl, HO3⟩
  case round =>
    clear HO3
    obtain ⟨i, hi, rfl, hrel⟩ := hrel
    by_cases hlt : i < N
    · obtain ⟨b, off, rfl, hcell⟩ := HC.out (by omega)
      have TA := Lib.hid (four_at hcell hlt)
      have hx := wfk_of (HBD.out i 2 hlt (by omega)).1 (HBD.out i 2 hlt (by omega)).2
      clear hcell HC HBD
      generalize f i 0 = s0 at *
      generalize f i 1 = s1 at *
      generalize f i 2 = s2 at *
      generalize f i 3 = s3 at *
      obtain ⟨p, hp3, hp⟩ := and_bd s0 3 (by omega)
      have hp : bits .and .i64 s0 3 = (p : Int) := hp
      obtain ⟨t0, t1, t2, t3⟩ : wr.cell? ⟨b, off + i * 4, none⟩ = some (.int .i64 s0) ∧ wr.cell? ⟨b, off + i * 4 + 1, none⟩ = some (.int .i64 s1) ∧ wr.cell? ⟨b, off + i * 4 + 2, none⟩ = some (.int .i64 s2) ∧ wr.cell? ⟨b, off + i * 4 + 3, none⟩ = some (.int .i64 s3) := by
        obtain ⟨st, n, r, s, hr, hs, hO, hn⟩ := hrel.out
        exact TA.out _ _ hO
      go_upto_block 2 with (fail)
      clear t0 t1 t2 t3 TA
      obtain ⟨B, hB⟩ : ∃ B, wr.heap.size = B := ⟨_, rfl⟩
      obtain ⟨WA, hWA⟩ : ∃ WA, wr.alloc (.cells #[.int .i64 s0, .int .i64 s1, .int .i64 s2, .int .i64 s3] 43) = WA := ⟨_, rfl⟩
      have HST := Lib.hid (show ∃ st n r s, DqAt bx m n st r ∧ RdAt g m st s ∧ Owned w0 WA (r ++ (s ++ ((B, .cells #[.int .i64 s0, .int .i64 s1, .int .i64 s2, .int .i64 s3] 43 (0, 0)) :: F))) ∧ n ≤ i from by
        obtain ⟨st, n, r, s, hr, hs, hO, hn⟩ := hrel.out
        refine ⟨st, n, r, s, hr, hs, ?_, hn⟩
        have hOs := hO.alloc (.cells #[.int .i64 s0, .int .i64 s1, .int .i64 s2, .int .i64 s3] 43)
        rw [hWA, hB] at hOs
        exact hOs.perm ((List.perm_middle (l₁ := r)).symm.trans (List.Perm.append_left r (List.perm_middle (l₁ := s)).symm))
      )
      rw [hWA, hB]
      clear hWA hB hrel
      have HSC := Lib.hid (show ∀ W (r s : Sep.Own), Owned w0 W (r ++ (s ++ ((B, .cells #[.int .i64 s0, .int .i64 s1, .int .i64 s2, .int .i64 s3] 43 (0, 0)) :: F))) → W.cell? ⟨B, 1, none⟩ = some (.int .i64 s1) ∧ W.cell? ⟨B, 2, none⟩ = some (.int .i64 s2) ∧ W.cell? ⟨B, 3, none⟩ = some (.int .i64 s3) from fun W r s h => by
        have h1 : Owned w0 W ((B, .cells #[.int .i64 s0, .int .i64 s1, .int .i64 s2, .int .i64 s3] 43 (0, 0)) :: (r ++ (s ++ F))) := h.perm ((List.Perm.append_left r List.perm_middle).trans List.perm_middle)
        exact ⟨(Owned.cell h1 1).trans rfl, (Owned.cell h1 2).trans rfl, (Owned.cell h1 3).trans rfl⟩)
      go_cut [10] (fun x10 wc => x10 = .bool true ∧ Hid (∃ st n r s, DqAt bx m n st r ∧ RdAt g m st s ∧ Owned w0 wc (r ++ (s ++ ((B, .cells #[.int .i64 s0, .int .i64 s1, .int .i64 s2, .int .i64 s3] 43 (0, 0)) :: F))) ∧ n ≤ i + 1))
      case first =>
        obtain ⟨st, n, r, s, hr, hs, hO, hn⟩ := HST.out
        clear HST
        have hn6 : n ≤ 1000000 := by omega
        have hm16 := hr.m16
        have hlen : ∀ i, i < m → (st i).length ≤ 1000000 := fun i hi => by have := hr.len hi; omega
        have honce := hr.once
        obtain ⟨t1, t2, t3⟩ := HSC.out _ _ _ hO.drew
        have HO := Lib.hid hO.drew
        have HS := Lib.hid hs
        have HLEN := Lib.hid hlen
        have HONCE := Lib.hid honce
        have HNN := Lib.hid hn
        rcases (show p = 0 ∨ p = 1 ∨ p = 2 ∨ p = 3 by omega) with rfl | rfl | rfl | rfl
        · obtain ⟨cc, st', hR, CP⟩ := dq_push_r (w0 := w0) hn6 s1 s2 s3 hr
          have CP0 := Lib.hid CP
          have HR := Lib.hid hR
          clear CP hr hO hs hlen honce hR hp hp3 hn
          go_wp2_with fail
          go_region_held3 (fun w' => w'.cell? ⟨B, 1, none⟩ = some (.int .i64 s1) ∧ w'.cell? ⟨B, 2, none⟩ = some (.int .i64 s2) ∧ w'.cell? ⟨B, 3, none⟩ = some (.int .i64 s3)) (first | exact ⟨t1, t2, t3⟩ | exact t4 | exact t5)
            (first
              | (go_at_call 10; (with_reducible refine (CP0.out _ _ HO.out).mono ?_); rintro e w4 ⟨rfl, n4, r4, hn4, hr4, hO4⟩; have t4 := HSC.out _ _ _ hO4; have HR4 := Lib.hid (And.intro hr4 hn4); have HO4 := Lib.hid hO4.comm; clear hr4 hO4 hn4)
              | (go_at_call 21; (with_reducible refine (rd_push_r hm16 HLEN.out s1 s2 s3 HS.out HO4.out).mono ?_); rintro e w5 ⟨c5, st5, s5, rfl, hR5, hs5, hO5⟩; obtain ⟨rfl, rfl⟩ := HR.out.det hR5; have t5 := HSC.out _ _ _ hO5.comm; have HS5 := Lib.hid hs5; have HO5 := Lib.hid hO5.comm; clear hR5 hs5 hO5))
          all_goals
            have HN := Lib.hid (show ∃ st n r s, DqAt bx m n st r ∧ RdAt g m st s ∧ Owned w0 w5 (r ++ (s ++ ((B, .cells #[.int .i64 s0, .int .i64 s1, .int .i64 s2, .int .i64 s3] 43 (0, 0)) :: F))) ∧ n ≤ i + 1 from ⟨_, n4, r4, s5, HR4.out.1, HS5.out, HO5.out, by have := HR4.out.2; have := HNN.out; omega⟩)
            clear t1 t2 t3 t4 t5 HR4 HO4 HS5 HO5 HR CP0 HO HS
            go_wp2_with fail
            go_meet
            case rel => exact ⟨rfl, HN⟩
        · obtain ⟨cc, st', hR, CP⟩ := dq_unlink_r (w0 := w0) hn6 s2 hx hr
          have CP0 := Lib.hid CP
          have HR := Lib.hid hR
          clear CP hr hO hs hlen honce hR hp hp3 hn
          go_wp2_with fail
          go_region_held3 (fun w' => w'.cell? ⟨B, 1, none⟩ = some (.int .i64 s1) ∧ w'.cell? ⟨B, 2, none⟩ = some (.int .i64 s2) ∧ w'.cell? ⟨B, 3, none⟩ = some (.int .i64 s3)) (first | exact ⟨t1, t2, t3⟩ | exact t4 | exact t5)
            (first
              | (go_at_call 14; (with_reducible refine (CP0.out _ _ HO.out).mono ?_); rintro e w4 ⟨rfl, n4, r4, hn4, hr4, hO4⟩; have t4 := HSC.out _ _ _ hO4; have HR4 := Lib.hid (And.intro hr4 hn4); have HO4 := Lib.hid hO4.comm; clear hr4 hO4 hn4)
              | (go_at_call 22; (with_reducible refine (rd_unlink_r hm16 HLEN.out s2 HS.out HO4.out).mono ?_); rintro e w5 ⟨c5, st5, s5, rfl, hR5, hs5, hO5⟩; obtain ⟨rfl, rfl⟩ := UnlinkR.det HONCE.out HR.out hR5; have t5 := HSC.out _ _ _ hO5.comm; have HS5 := Lib.hid hs5; have HO5 := Lib.hid hO5.comm; clear hR5 hs5 hO5))
          all_goals
            have HN := Lib.hid (show ∃ st n r s, DqAt bx m n st r ∧ RdAt g m st s ∧ Owned w0 w5 (r ++ (s ++ ((B, .cells #[.int .i64 s0, .int .i64 s1, .int .i64 s2, .int .i64 s3] 43 (0, 0)) :: F))) ∧ n ≤ i + 1 from ⟨_, n4, r4, s5, HR4.out.1, HS5.out, HO5.out, by have := HR4.out.2; have := HNN.out; omega⟩)
            clear t1 t2 t3 t4 t5 HR4 HO4 HS5 HO5 HR CP0 HO HS
            go_wp2_with fail
            go_meet
            case rel => exact ⟨rfl, HN⟩
        · obtain ⟨cc, st', hR, CP⟩ := dq_move_r (w0 := w0) hn6 s2 s1 hx hr
          have CP0 := Lib.hid CP
          have HR := Lib.hid hR
          clear CP hr hO hs hlen honce hR hp hp3 hn
          go_wp2_with fail
          go_region_held3 (fun w' => w'.cell? ⟨B, 1, none⟩ = some (.int .i64 s1) ∧ w'.cell? ⟨B, 2, none⟩ = some (.int .i64 s2) ∧ w'.cell? ⟨B, 3, none⟩ = some (.int .i64 s3)) (first | exact ⟨t1, t2, t3⟩ | exact t4 | exact t5)
            (first
              | (go_at_call 17; (with_reducible refine (CP0.out _ _ HO.out).mono ?_); rintro e w4 ⟨rfl, n4, r4, hn4, hr4, hO4⟩; have t4 := HSC.out _ _ _ hO4; have HR4 := Lib.hid (And.intro hr4 hn4); have HO4 := Lib.hid hO4.comm; clear hr4 hO4 hn4)
              | (go_at_call 23; (with_reducible refine (rd_move_r hm16 HLEN.out HONCE.out.u s2 s1 HS.out HO4.out).mono ?_); rintro e w5 ⟨c5, st5, s5, rfl, hR5, hs5, hO5⟩; obtain ⟨rfl, rfl⟩ := MoveR.det HONCE.out HR.out hR5; have t5 := HSC.out _ _ _ hO5.comm; have HS5 := Lib.hid hs5; have HO5 := Lib.hid hO5.comm; clear hR5 hs5 hO5))
          all_goals
            have HN := Lib.hid (show ∃ st n r s, DqAt bx m n st r ∧ RdAt g m st s ∧ Owned w0 w5 (r ++ (s ++ ((B, .cells #[.int .i64 s0, .int .i64 s1, .int .i64 s2, .int .i64 s3] 43 (0, 0)) :: F))) ∧ n ≤ i + 1 from ⟨_, n4, r4, s5, HR4.out.1, HS5.out, HO5.out, by have := HR4.out.2; have := HNN.out; omega⟩)
            clear t1 t2 t3 t4 t5 HR4 HO4 HS5 HO5 HR CP0 HO HS
            go_wp2_with fail
            go_meet
            case rel => exact ⟨rfl, HN⟩
        · obtain ⟨cc, st', hR, CP⟩ := dq_reweigh_r (w0 := w0) hn6 s2 s3 hx hr
          have CP0 := Lib.hid CP
          have HR := Lib.hid hR
          clear CP hr hO hs hlen honce hR hp hp3 hn
          go_wp2_with fail
          go_region_held3 (fun w' => w'.cell? ⟨B, 1, none⟩ = some (.int .i64 s1) ∧ w'.cell? ⟨B, 2, none⟩ = some (.int .i64 s2) ∧ w'.cell? ⟨B, 3, none⟩ = some (.int .i64 s3)) (first | exact ⟨t1, t2, t3⟩ | exact t4 | exact t5)
            (first
              | (go_at_call 24; (with_reducible refine (CP0.out _ _ HO.out).mono ?_); rintro e w4 ⟨rfl, n4, r4, hn4, hr4, hO4⟩; have t4 := HSC.out _ _ _ hO4; have HR4 := Lib.hid (And.intro hr4 hn4); have HO4 := Lib.hid hO4.comm; clear hr4 hO4 hn4)
              | (go_at_call 25; (with_reducible refine (rd_reweigh_r hm16 HLEN.out s2 s3 HS.out HO4.out).mono ?_); rintro e w5 ⟨c5, st5, s5, rfl, hR5, hs5, hO5⟩; obtain ⟨rfl, rfl⟩ := ReweighR.det HONCE.out HR.out hR5; have t5 := HSC.out _ _ _ hO5.comm; have HS5 := Lib.hid hs5; have HO5 := Lib.hid hO5.comm; clear hR5 hs5 hO5))
          all_goals
            have HN := Lib.hid (show ∃ st n r s, DqAt bx m n st r ∧ RdAt g m st s ∧ Owned w0 w5 (r ++ (s ++ ((B, .cells #[.int .i64 s0, .int .i64 s1, .int .i64 s2, .int .i64 s3] 43 (0, 0)) :: F))) ∧ n ≤ i + 1 from ⟨_, n4, r4, s5, HR4.out.1, HS5.out, HO5.out, by have := HR4.out.2; have := HNN.out; omega⟩)
            clear t1 t2 t3 t4 t5 HR4 HO4 HS5 HO5 HR CP0 HO HS
            go_wp2_with fail
            go_meet
            case rel => exact ⟨rfl, HN⟩
      case rest =>
        obtain ⟨rfl, hrel2⟩ := hcut
        clear HST hp hp3
        obtain ⟨st, n, r, s, hr, hs, hO, hn⟩ := hrel2.out
        clear hrel2
        have hm16 := hr.m16
        have hlen : ∀ i, i < m → (st i).length ≤ 1000000 := fun i hi => by have := hr.len hi; omega
        obtain ⟨a, z, hA, CO⟩ := dq_of_r (w0 := w0) s2 hx hr
        have CO0 := Lib.hid (CO _ _ hO)
        have CP0 := Lib.hid (fun (W : World) (X : Sep.Own) (h : Owned w0 W (s ++ X)) => rd_of s2 hs hm16 hlen h)
        have CA0 := Lib.hid (fun (W : World) (X : Sep.Own) (h : Owned w0 W (r ++ (s ++ X))) => agree_calls hr (by omega) hs h)
        obtain ⟨t1, t2, t3⟩ := HSC.out _ _ _ hO
        have HO := Lib.hid hO
        have HA := Lib.hid hA
        have HONCE := Lib.hid hr.once
        have HH := Lib.hid (And.intro hr (And.intro hs hn))
        clear CO hO hA hr hs hn hlen
        go_wp2_with fail
        go_at_call 16
        refine (CO0.out).mono ?_
        rintro e w5 ⟨rfl, hb5⟩
        have HO5 := Lib.hid (HO.out.under hb5)
        clear hb5 CO0 HO t1 t2 t3
        obtain ⟨t1, t2, t3⟩ := HSC.out _ _ _ HO5.out
        go_wp2_with fail
        go_at_call 26
        refine (CP0.out _ _ HO5.out.comm).mono ?_
        rintro e w6 ⟨a2, z2, rfl, hR2, hb6⟩
        obtain ⟨rfl, rfl⟩ := OfR.det HONCE.out HA.out hR2
        have HO6 := Lib.hid (HO5.out.under hb6)
        clear hb6 CP0 HO5 t1 t2 t3 hR2 HA HONCE
        go_wp2_with fail
        go_at_call 27
        refine (CA0.out _ _ HO6.out).mono ?_
        rintro e w7 ⟨rfl, hO7⟩
        have HN := Lib.hid (show PlRel w0 F bx g m (i + 1) w7 from ⟨st, n, r, s, HH.out.1, HH.out.2.1, hO7.sub (List.Sublist.append (List.Sublist.refl r) (List.Sublist.append (List.Sublist.refl s) (List.sublist_cons_self _ _))), HH.out.2.2⟩)
        clear hO7 HO6 CA0 HH HSC
        go_wp2_with fail
        go_roundw
        case rel => exact ⟨i + 1, by omega, by go_num, HN⟩
        case measure => simp [intOf]; omega
    · obtain rfl : i = N := by omega
      obtain ⟨st, n, r, s, hr, hs, hO, hn⟩ := hrel.out
      clear hrel HBD HC hlt
      have RC := Lib.hid (row_calls hr (by omega) 0 1 (by omega) hO)
      have CL := Lib.hid (fun (W : World) (X : Sep.Own) (h : Owned w0 W (r ++ X)) => dq_len_r hr 0 h)
      obtain ⟨L, hL⟩ : ∃ L, (rowAt m st 0).length = L := ⟨_, rfl⟩
      have hlr := row_len hr 0
      rw [hL] at CL hlr
      have hT : ((idsAt m st 0).take 1).length = min 1 L := by rw [ids_row, List.length_take, List.length_map, hL]
      rw [hT] at RC
      clear hr hs hO hn hL hT
      go_wp2_with fail
      go_at_call 18
      refine (RC.out).mono ?_
      rintro e w1 ⟨v1, q1, rfl, hrow1, hO1⟩
      obtain ⟨A1, c1, rfl⟩ := hrow1.slice
      have HO1 := Lib.hid hO1.comm
      clear hrow1 hO1 RC
      go_wp2_with fail
      go_at_call 13
      refine (CL.out _ _ HO1.out).mono ?_
      rintro e w2 ⟨rfl, hb2⟩
      have HO2 := Lib.hid (HO1.out.under hb2)
      clear hb2 CL HO1
      have hmin := min_if7
      have hfin := HO2.out.below
      clear HO2 hlr
      cases L with
      | zero =>
        rw [show min 1 0 = 0 from rfl]
        go_wp2_with fail
        go_ret
        exact ⟨rfl, hfin⟩
      | succ p =>
        have m0 : min 1 (p + 1) = 1 := by omega
        rw [m0]
        have m1 : min (1 : Int) ((p : Int) + 1) = 1 := by omega
        have m2 : min ((p : Int) + 1) (1 : Int) = 1 := by omega
        have m3 : min (1 : Int) ((p + 1 : Nat) : Int) = 1 := by omega
        have m4 : min ((p + 1 : Nat) : Int) (1 : Int) = 1 := by omega
        go_wp2_with fail
        go_ret
        exact ⟨rfl, hfin⟩
end
end Go.Proofs.Ytlnokijfmkldkaa
