/- Layer 11, PolicyRow: Play does what Do does, one behind the other. -/
import Derived.Test.YtnhdjpeadhcajaaK47
namespace Go.Proofs.Ytnhdjpeadhcajaa
open Go.RowKit Go.Sep DqPure
set_option maxRecDepth 100000
theorem permR1 (T rq ra G : Go.Sep.Own) : (T ++ (rq ++ (ra ++ (G)))).Perm (ra ++ (rq ++ (T ++ (G)))) :=
  (perm3 T rq ra _).trans (List.Perm.append_left ra ((perm2 T rq _).trans (List.Perm.append_left rq (List.Perm.refl _))))
section
variable {w0 : World}
theorem prow_out (cap seed : Int) (v : Value) (len : Nat) (f : Nat → Nat → Int) (hv : ReadsR 4 w0 v len f) (h1 : 300 < len ∨ (len ≤ 300 ∧ 1024 < cap)) :
    Calls Try.prog 7 #[.int .i64 cap, .int .i64 seed, v] w0 fun e w' => e = .returned (.bool true) ∧ Below w0.heap.size w0 w' := by
  obtain ⟨hl, -, A, c, rfl, -⟩ := hv
  have cs := small_calls w0
  rcases h1 with h1 | ⟨h1, h2⟩
  · go_enter Try.func7, Try.ntmps7
    go_wp2_with fail
    go_at_call 9
    refine (cs).mono ?_
    rintro e w1 ⟨rfl, hb⟩
    go_wp2_with fail
    go_ret
    exact ⟨rfl, hb⟩
  · go_enter Try.func7, Try.ntmps7
    go_wp2_with fail
    go_at_call 9
    refine (cs).mono ?_
    rintro e w1 ⟨rfl, hb⟩
    go_wp2_with fail
    go_ret
    exact ⟨rfl, hb⟩
set_option maxHeartbeats 12800000 in
theorem prow_walk (cap seed : Int) (v : Value) (len : Nat) (f : Nat → Nat → Int) (hv : ReadsR 4 w0 v len f) (h1 : len ≤ 300) (h2 : cap ≤ 1024) :
    Calls Try.prog 7 #[.int .i64 cap, .int .i64 seed, v] w0 fun e w' => e = .returned (.bool true) ∧ Below w0.heap.size w0 w' := by
  obtain ⟨F, hF⟩ : ∃ F : Sep.Own, [] = F := ⟨_, rfl⟩
  have hO0 : Owned w0 w0 F := by rw [← hF]; exact Owned.nil w0
  have cs := small_own hO0
  have HV := Lib.hid hv
  have hw : ∀ i j, i < len → j < 4 → wfk (f i j) := fun i j hi hj => wfk_of (hv.2.1 i j hi hj).1 (hv.2.1 i j hi hj).2
  have HW := Lib.hid hw
  obtain ⟨-, -, A, c, rfl, hA, -⟩ := hv
  have hnone := readsr_none HV.out
  have HA := Lib.hid hA
  have HN := Lib.hid hnone
  have g1 : decide (300 < len) = false := by simp; omega
  have g2 : decide (300 < (len : Int)) = false := by simp; omega
  have g3 : decide (1024 < cap) = false := by simp; omega
  clear hF hO0 hA hw hnone
  go_enter Try.func7, Try.ntmps7
  go_wp2_with fail
  go_at_call 9
  refine (cs).mono ?_
  rintro e w1 ⟨rfl, hO1⟩
  have q1 := y_new cap seed hO1
  clear cs hO1
  go_wp2_with fail
  go_at_call 10
  refine (q1).mono ?_
  rintro e w2 ⟨gx, rfl, hs2⟩
  have q2 := b_new hs2 cap seed
  clear q1 hs2
  go_wp2_with fail
  go_at_call 10
  refine (q2).mono ?_
  rintro e w3 ⟨gy, rfl, hb3⟩
  generalize PSt.new cap seed = P at *
  obtain ⟨T, hT, hT2⟩ := hb3.opened
  have HT2 := Lib.hid hT2
  have HO3 := Lib.hid (hT.alloc (.cells #[] 28))
  have hr0 : Row 28 4 (.slice (some ⟨w3.heap.size, 0, none⟩) 0 0) 0 [] [(w3.heap.size, .cells #[] 28 (0, 0))] := ⟨rfl, .inr ⟨_, 0, #[], rfl, rfl, by omega, by unfold maxLen; omega, rfl, rfl⟩⟩
  have HR0 := Lib.hid hr0
  have HEC := Lib.hid (reads_ev (readsr_below HV.out (HO3.out.below.mono (Nat.le_refl _))))
  clear hT hT2 hr0 hb3 q2
  go_wp2_with (at_builtin; refine append_any rfl (.tmp 38) (.tmp 39) 22 rfl 28 (.agg #[.int .i64 0, .int .i64 0, .int .i64 0, .int .i64 0]) 4 32 Try.underlying22 info_ev rfl (by omega) _ 0 [] _ (T ++ F) rfl HR0.out HO3.out A len c (evV len f) rfl (evV_len _ _) HN.out HEC.out (evV_one _ _) (by unfold maxLen; omega) (by omega) ?_; intro v4 r4 w4 hr4 hO4; simp only [Nat.zero_add, List.nil_append] at hr4; have HR4 := Lib.hid hr4; have HO4 := Lib.hid hO4; clear hr4 hO4)
  have hb4 : Both w0 (r4 ++ F) gx 0 P gy 0 P w4 := HT2.out _ _ HO4.out.comm
  have hevi : EvIn w0 (r4 ++ F) v4 len f := EvIn.of_row HR4.out HW.out
  have q4 := b_play hb4 hevi (by omega) (by omega)
  have HEVI := Lib.hid hevi
  obtain ⟨⟨A4, c4, rfl, hA4⟩, -⟩ := hevi
  have HA4 := Lib.hid hA4
  clear hb4 hA4 HR4 HO4 HT2 HO3 HEC
  go_wp2_with fail
  go_at_call 16
  refine (q4).mono ?_
  rintro e w5 ⟨v5, rg, rfl, hr5, hb5⟩
  have HRG := Lib.hid hr5
  have HB5 := Lib.hid hb5.swap
  clear q4 hr5 hb5
  go_wp2_with fail
  go_loopw [12, 13] (fun x12 x13 wr => ∃ (i : Nat) (ra : Sep.Own), i ≤ len ∧ x13 = .int .i64 (i : Int) ∧ (P.play (evL i f)).2.length ≤ i * 4000000 ∧ Hid (Row 3 1 x12 (P.play (evL i f)).2.length (ints (P.play (evL i f)).2) ra) ∧ Hid (Both w0 (ra ++ (rg ++ (r4 ++ F))) gy (0 + 2 * i) (P.play (evL i f)).1 gx (0 + 2 * len) (P.play (evL len f)).1 wr)) (fun _ x13 _ => len - (intOf x13).toNat)
  case atStart => exact ⟨0, [], Nat.zero_le _, rfl, Nat.le_refl _, Lib.hid (Row.nil _ _), HB5⟩
  case round =>
    obtain ⟨i, ra, hi, rfl, hL, hra, hb⟩ := hrel
    by_cases hlt : i < len
    · obtain ⟨b, off, rfl, hcells⟩ := HA.out (by omega)
      obtain ⟨b4, off4, rfl, hcells4⟩ := HA4.out (by omega)
      obtain ⟨hp1, hp2⟩ := play_snoc (f i 0, f i 1, f i 2, f i 3) (evL i f) P
      rw [← evL_succ] at hp1 hp2
      have HP1 := Lib.hid (And.intro hp1 hp2)
      clear hp1 hp2
      generalize (P.play (evL i f)).1 = Pi at *
      generalize (P.play (evL i f)).2 = L at *
      have hw1 := HW.out i 1 hlt (by omega)
      have hw2 := HW.out i 2 hlt (by omega)
      have hold : ∀ (W : World) (q : Sep.Own), Owned w0 W q → ∀ j, j < 4 → W.cell? ⟨b, off + (i * 4 + j), none⟩ = some (.int .i64 (f i j)) := fun W q hO j hj => (hO.below.cell (World.block_lt_of_cell? _ _ (hcells i j hlt hj))).trans (hcells i j hlt hj)
      have hnew : ∀ (W : World) (q : Sep.Own), Owned w0 W (q ++ (r4 ++ F)) → ∀ j, j < 4 → W.cell? ⟨b4, off4 + (i * 4 + j), none⟩ = some (.int .i64 (f i j)) := fun W q hO j hj => hcells4 W q hO i j hlt hj
      obtain ⟨qq, hOw⟩ := hb.out.own
      have t0 : wr.cell? ⟨b, off + i * 4, none⟩ = some (.int .i64 (f i 0)) := hold wr _ hOw 0 (by omega)
      have t1 : wr.cell? ⟨b, off + i * 4 + 1, none⟩ = some (.int .i64 (f i 1)) := hold wr _ hOw 1 (by omega)
      have t2 : wr.cell? ⟨b, off + i * 4 + 2, none⟩ = some (.int .i64 (f i 2)) := hold wr _ hOw 2 (by omega)
      have t3 : wr.cell? ⟨b, off + i * 4 + 3, none⟩ = some (.int .i64 (f i 3)) := hold wr _ hOw 3 (by omega)
      have hafter : ∀ (W : World) (q : Sep.Own), Owned w0 W (q ++ (r4 ++ F)) → (W.cell? ⟨b, off + i * 4, none⟩ = some (.int .i64 (f i 0)) ∧ W.cell? ⟨b, off + i * 4 + 1, none⟩ = some (.int .i64 (f i 1)) ∧ W.cell? ⟨b, off + i * 4 + 2, none⟩ = some (.int .i64 (f i 2)) ∧ W.cell? ⟨b, off + i * 4 + 3, none⟩ = some (.int .i64 (f i 3))) ∧ W.cell? ⟨b4, off4 + i * 4, none⟩ = some (.int .i64 (f i 0)) ∧ W.cell? ⟨b4, off4 + i * 4 + 1, none⟩ = some (.int .i64 (f i 1)) ∧ W.cell? ⟨b4, off4 + i * 4 + 2, none⟩ = some (.int .i64 (f i 2)) ∧ W.cell? ⟨b4, off4 + i * 4 + 3, none⟩ = some (.int .i64 (f i 3)) :=
        fun W q hO => ⟨⟨hold W _ hO 0 (by omega), hold W _ hO 1 (by omega), hold W _ hO 2 (by omega), hold W _ hO 3 (by omega)⟩, hnew W _ hO 0 (by omega), hnew W _ hO 1 (by omega), hnew W _ hO 2 (by omega), hnew W _ hO 3 (by omega)⟩
      have HAF := Lib.hid hafter
      clear hcells hcells4 hold hnew hOw hafter
      generalize f i 0 = x0 at *
      generalize f i 1 = x1 at *
      generalize f i 2 = x2 at *
      generalize f i 3 = x3 at *
      have cd := b_doL hb.out (by omega) x0 x1 x2 x3 hw1 hw2
      have HRA := hra
      clear hb hw1 hw2 hra
      go_wp2_with fail
      go_at_call 12
      refine (cd).mono ?_
      rintro e w6 ⟨u, rq, rfl, hrow2, hb6, hlen2⟩
      obtain ⟨T, hT, hT2⟩ := hb6.opened
      have HT2 := Lib.hid hT2
      have HO6 := Lib.hid (hT.perm (permR1 T rq ra (rg ++ (r4 ++ F))))
      have hrow1 := HRA.out
      generalize (Pi.act x0 x1 x2 x3).2.1 = M at *
      generalize (Pi.act x0 x1 x2 x3).1 = P2 at *
      obtain ⟨p, hp⟩ : ∃ p, L.length = p := ⟨_, rfl⟩
      obtain ⟨q, hq⟩ : ∃ q, M.length = q := ⟨_, rfl⟩
      rw [hp] at hrow1 hL
      rw [hq] at hrow2 hlen2
      have hm1 : p + q ≤ maxLen := by unfold maxLen; omega
      have hm2 : (p + q) * 8 ≤ 140737488355328 := by omega
      have hone : ∀ u ∈ ints M, u.oneCell' = true := fun u hu => by
        obtain ⟨z, -, rfl⟩ := List.mem_map.1 hu
        rfl
      have HLEN := Lib.hid (show (L ++ M).length = p + q by rw [List.length_append, hp, hq])
      have HROW2 := Lib.hid hrow2
      have HONE := Lib.hid hone
      have HROW1 := Lib.hid hrow1
      clear hT hT2 hb6 hp hq hrow2 hone hrow1 HRA cd t0 t1 t2 t3
      go_wp2_with (at_builtin; refine append_rows rfl (.tmp 59) (.tmp 60) 26 rfl 3 (.int .i64 0) 1 8 Try.underlying26 info_int8 rfl (by omega) _ _ p q _ _ ra rq _ rfl rfl HROW1.out HROW2.out HO6.out HONE.out hm1 hm2 ?_; intro v7 r7 w7 hrow7 hO7; have HROW7 := Lib.hid hrow7; have HO7 := Lib.hid hO7; clear hrow7 hO7)
      have hb7 : Both w0 (r7 ++ (rg ++ (r4 ++ F))) gy (0 + 2 * i + 2) P2 gx (0 + 2 * len) (P.play (evL len f)).1 w7 := HT2.out _ _ (HO7.out.sub ((List.Sublist.refl r7).append (List.sublist_append_right rq _))).comm
      obtain ⟨q7, hOw⟩ := hb7.own
      have hOw2 : Owned w0 w7 ((q7 ++ (r7 ++ rg)) ++ (r4 ++ F)) := by simpa only [List.append_assoc] using hOw
      obtain ⟨⟨s0, s1, s2, s3⟩, z0, z1, z2, z3⟩ := HAF.out _ _ hOw2
      replace s0 := cell_regrown s0
      replace s1 := cell_regrown s1
      replace s2 := cell_regrown s2
      replace s3 := cell_regrown s3
      replace z0 := cell_regrown z0
      replace z1 := cell_regrown z1
      replace z2 := cell_regrown z2
      replace z3 := cell_regrown z3
      have HB7 := Lib.hid hb7
      clear hb7 hOw hOw2 HO7 HT2 HO6
      refine wp_region_quiet_below (by kernel_rfl) (by kernel_rfl) ?_
      repeat (first | go_big_quiet_step ((first | (go_at_call 14; with_reducible exact Calls.regrown_of ((fail))))) | quiet_step ((first | (go_at_call 14; with_reducible exact Calls.regrown_of ((fail))))))
      refine wpQuiet_nil ?_
      intro _ hw'
      obtain ⟨⟨dq, osq⟩, hw''⟩ := hw'
      subst hw''
      have HB8 := Lib.hid (HB7.out.under (below_regrown w7 dq osq))
      generalize (Go.Sort.grow (redrawn w7 dq) osq) = w8 at *
      clear s0 s1 s2 s3 z0 z1 z2 z3 HB7
      go_wp2_with fail
      go_roundw
      case rel =>
        have e1 : (P.play (evL (i + 1) f)).2 = L ++ M := HP1.out.2
        have e2 : (P.play (evL (i + 1) f)).1 = P2 := HP1.out.1
        refine ⟨i + 1, r7, hlt, by go_num, ?_, Lib.hid ?_, Lib.hid ?_⟩
        · rw [e1, HLEN.out]
          omega
        · rw [e1, HLEN.out, ints_app]
          exact HROW7.out
        · rw [e2]
          exact HB8.out
      case measure => simp [intOf]; omega
    · obtain rfl : i = len := by omega
      have HRA := hra
      have HB9 := Lib.hid hb.out.swap
      clear hb hra HA HA4 HEVI HW HV HN
      generalize (P.play (evL i f)).1 = Q at *
      generalize (P.play (evL i f)).2 = L at *
      go_wp2_with fail
      go_loopw [16] (fun x wz => ∃ j : Nat, j ≤ 3 ∧ x = .int .i64 j ∧ Hid (Both w0 (ra ++ (rg ++ (r4 ++ F))) gx (0 + 2 * i) Q gy (0 + 2 * i) Q wz)) (fun x _ => 3 - (intOf x).toNat)
      case atStart => exact ⟨0, by omega, rfl, HB9⟩
      case round =>
        obtain ⟨j, hj, rfl, hb⟩ := hrel
        replace hb := hb.out
        clear HB9
        by_cases hlt2 : j < 3
        · have q7 := b_row hb (by omega) (j : Int)
          clear hb
          go_wp2_with fail
          go_at_call 13
          refine (q7).mono ?_
          rintro e w7 ⟨v7, r7, rfl, hr7, hb7⟩
          have q8 := b_row hb7.swap (by omega) (j : Int)
          have HR7 := Lib.hid hr7
          clear q7 hb7 hr7
          go_wp2_with fail
          go_at_call 13
          refine (q8).mono ?_
          rintro e w8 ⟨v8, r8, rfl, hr8, hb8⟩
          have hi1 := ints_calls v7 v8 _ _ _ ((hb8.perm (perm2 r8 r7 _)).reads HR7.out) (hb8.reads hr8)
          rw [decide_eq_true rfl] at hi1
          have HB8 := Lib.hid hb8.swap
          clear q8 hb8 hr8
          go_wp2_with fail
          go_at_call 15
          refine (hi1).mono ?_
          rintro e w9 ⟨rfl, m9, rfl⟩
          have hb9 := HB8.out.under (show Below _ _ (w8.drewN m9) from ⟨rfl, rfl, rfl, Nat.le_refl _, fun _ _ => rfl⟩)
          have HB9 := Lib.hid ((hb9.sub (List.sublist_append_right r8 _)).sub (List.sublist_append_right r7 _))
          clear hi1 hb9 HB8
          generalize w8.drewN m9 = w9 at *
          go_wp2_with fail
          go_roundw
          case rel => exact ⟨j + 1, hlt2, by go_num, HB9⟩
          case measure => simp [intOf]; omega
        · obtain rfl : j = 3 := by omega
          have hi1 := ints_calls _ _ _ _ _ ((hb.perm (perm2 ra rg (r4 ++ F))).reads HRG.out) (hb.reads HRA.out)
          rw [decide_eq_true rfl] at hi1
          have HB8 := Lib.hid hb
          clear hb
          go_wp2_with fail
          go_at_call 15
          refine (hi1).mono ?_
          rintro e w9 ⟨rfl, m9, rfl⟩
          have hb9 := HB8.out.under (show Below _ _ (wr.drewN m9) from ⟨rfl, rfl, rfl, Nat.le_refl _, fun _ _ => rfl⟩)
          have HB9 := Lib.hid hb9
          clear hb9 hi1 HB8
          obtain ⟨G1, hs1⟩ := HB9.out.first
          obtain ⟨G2, hs2⟩ := HB9.out.swap.first
          have HS1 := Lib.hid hs1
          have HS2 := Lib.hid hs2
          have cw1 := y_weight HS1.out (by omega)
          clear hs1 hs2 HB9 HRA HRG
          go_wp2_with fail
          go_at_call 14
          refine (cw1).mono ?_
          rintro e w10 ⟨rfl, hb10⟩
          have cw2 := y_weight (HS2.out.under hb10) (by omega)
          have HS11 := Lib.hid (HS1.out.under hb10)
          have HS21 := Lib.hid (HS2.out.under hb10)
          clear cw1 HS1 HS2
          go_wp2_with fail
          go_at_call 14
          refine (cw2).mono ?_
          rintro e w11 ⟨rfl, hb11⟩
          have HS12 := Lib.hid (HS11.out.under hb11)
          have HS22 := Lib.hid (HS21.out.under hb11)
          have cz1 := y_quota HS12.out
          clear cw2 HS11 HS21
          go_wp2_with fail
          go_at_call 17
          refine (cz1).mono ?_
          rintro e w12 ⟨rfl, hb12⟩
          have HS13 := Lib.hid (HS12.out.under hb12)
          have cz2 := y_quota (HS22.out.under hb12)
          have HS23 := Lib.hid (HS22.out.under hb12)
          clear cz1 HS12 HS22
          go_wp2_with fail
          go_at_call 17
          refine (cz2).mono ?_
          rintro e w13 ⟨rfl, hb13⟩
          have hbl := (HS13.out.under hb13).below
          clear cz2 HS13 HS23
          go_wp2_with fail
          go_ret
          exact ⟨rfl, hbl⟩
end
end Go.Proofs.Ytnhdjpeadhcajaa
