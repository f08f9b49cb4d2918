/- The statements of layer 7: DequeSums, the walk. -/
import Derived.Test.YtlnokijfmkldkaaDq16
import Derived.Test.YtlnokijfmkldkaaDq17
import Derived.Test.YtlnokijfmkldkaaReadsR
import Derived.Deep.CutBlock
import Derived.Deep.DeepCutAuto
namespace Go.Proofs.Ytlnokijfmkldkaa
open Go.RowKit Go.Sep DqPure Go.Lib
/-- the four numbers of an element, in any later world -/
def FourAt (w0 : World) (b off : Nat) (k : Nat) (x y z u : Int) : Prop := ∀ W (l' : Sep.Own), Owned w0 W l' → W.cell? ⟨b, off + k * 4, none⟩ = some (.int .i64 x) ∧ W.cell? ⟨b, off + k * 4 + 1, none⟩ = some (.int .i64 y) ∧ W.cell? ⟨b, off + k * 4 + 2, none⟩ = some (.int .i64 z) ∧ W.cell? ⟨b, off + k * 4 + 3, none⟩ = some (.int .i64 u)
theorem four_at {w0 : World} {b off N : Nat} {f : Nat → Nat → Int} (h : ∀ i j, i < N → j < 4 → w0.cell? ⟨b, off + (i * 4 + j), none⟩ = some (.int .i64 (f i j))) {k : Nat} (hk : k < N) : FourAt w0 b off k (f k 0) (f k 1) (f k 2) (f k 3) := by
  intro W l' hO
  have h0 := h k 0 hk (by omega)
  have h1 := h k 1 hk (by omega)
  have h2 := h k 2 hk (by omega)
  have h3 := h k 3 hk (by omega)
  rw [Nat.add_zero] at h0
  rw [← Nat.add_assoc] at h1 h2 h3
  exact ⟨(hO.below.cell (p := ⟨b, off + k * 4, none⟩) (World.block_lt_of_cell? _ _ h0)).trans h0, (hO.below.cell (p := ⟨b, off + k * 4 + 1, none⟩) (World.block_lt_of_cell? _ _ h1)).trans h1,
    (hO.below.cell (p := ⟨b, off + k * 4 + 2, none⟩) (World.block_lt_of_cell? _ _ h2)).trans h2, (hO.below.cell (p := ⟨b, off + k * 4 + 3, none⟩) (World.block_lt_of_cell? _ _ h3)).trans h3⟩
def SumRel (w0 : World) (F : Sep.Own) (bx k : Nat) (w : World) : Prop := ∃ st n r, DqAt bx 3 n st r ∧ Owned w0 w (r ++ F) ∧ n ≤ k
theorem take_split (l : List (Int × Int)) {j : Nat} (h : j < l.length) : l = l.take j ++ ((l.map (·.1)).getD j 0, (l.map (·.2)).getD j 0) :: l.drop (j + 1) := by
  have e : l.drop j = l[j] :: l.drop (j + 1) := List.drop_eq_getElem_cons h
  have e1 : (l.map (·.1)).getD j 0 = l[j].1 := by simp [List.getD, h]
  have e2 : (l.map (·.2)).getD j 0 = l[j].2 := by simp [List.getD, h]
  rw [e1, e2]
  show l = l.take j ++ l[j] :: l.drop (j + 1)
  rw [← e, List.take_append_drop]
theorem mem_of_split {l A B : List (Int × Int)} {p : Int × Int} (h : l = A ++ p :: B) : p ∈ l := by rw [h]; simp
theorem take_sum (l : List (Int × Int)) {j : Nat} (h : j < l.length) : sumW (l.take (j + 1)) = sumW (l.take j) + (l.map (·.2)).getD j 0 := by
  have e2 : (l.map (·.2)).getD j 0 = l[j].2 := by simp [List.getD, h]
  rw [List.take_succ_eq_append_getElem h, sumW_append, e2]
  show _ + (l[j].2 + 0) = _
  omega
section
variable {w0 : World}
set_option maxHeartbeats 800000 in
set_option maxRecDepth 100000 in
theorem sums_out (u : Value) (N : Nat) (f : Nat → Nat → Int) (hu : ReadsR 4 w0 u N f) (h2 : 150 < N) : Calls Try.prog 7 #[u] w0 fun e w' => e = .returned (.bool true) ∧ Below w0.heap.size w0 w' := by
  obtain ⟨hl2, hbd, A2, c2, rfl, _⟩ := hu
  clear hbd
  go_enter Try.func7, Try.ntmps7
  go_wp2_with fail
  go_at_call 8
  refine (dq_small w0).mono ?_
  rintro e w1 ⟨rfl, hb1⟩
  go_wp2_with fail
  go_at_call 9
  refine (dq_new 3 ((Owned.nil w0).under hb1)).mono ?_
  rintro e w2 ⟨g, r, rfl, hr, hO2⟩
  go_wp2_with fail
  go_ret
  exact ⟨rfl, hO2.below⟩
set_option maxHeartbeats 6400000 in
set_option maxRecDepth 100000 in
theorem sums_walk (u : Value) (N : Nat) (f : Nat → Nat → Int) (hu : ReadsR 4 w0 u N f) (h2 : N ≤ 150) : Calls Try.prog 7 #[u] w0 fun e w' => e = .returned (.bool true) ∧ Below w0.heap.size w0 w' := by
  obtain ⟨hl2, hbd, A2, c2, rfl, hc2⟩ := hu
  have HC := Lib.hid hc2
  have HBD := Lib.hid hbd
  clear hc2 hbd
  have hd := fun (w : World) (F : Sep.Own) (h : Owned w0 w F) => dq_new 3 h
  rw [show rowsN 3 = 3 from rfl] at hd
  go_enter Try.func7, Try.ntmps7
  go_wp2_with fail
  go_at_call 8
  refine (dq_small w0).mono ?_
  rintro e w1 ⟨rfl, hb1⟩
  go_wp2_with fail
  go_at_call 9
  refine (hd _ _ ((Owned.nil w0).under hb1)).mono ?_
  rintro e w2 ⟨g, r, rfl, hr, hO2⟩
  obtain ⟨F, hO2⟩ : ∃ F, Owned w0 w2 (r ++ F) := ⟨[], hO2⟩
  have HO2 := Lib.hid (show SumRel w0 F g 0 w2 from ⟨_, 0, r, hr, hO2, Nat.le_refl _⟩)
  clear hr hO2 hd
  go_wp2_with fail
  go_loopw [5] (fun x5 wr => ∃ i : Nat, i ≤ N ∧ x5 = .int .i64 (i : Int) ∧ Hid (SumRel w0 F g i wr)) (fun x5 _ => N - (intOf x5).toNat)
  case atStart => exact ⟨0, Nat.zero_le _, rfl, HO2⟩
  case round =>
    clear HO2
    obtain ⟨i, hi, rfl, hrel⟩ := hrel
    by_cases hlt : i < N
    · obtain ⟨b, off, rfl, hcell⟩ := HC.out (by omega)
      have TA := Lib.hid (four_at hcell hlt)
      have hx := wfk_of (HBD.out i 2 hlt (by omega)).1 (HBD.out i 2 hlt (by omega)).2
      clear hcell HC HBD
      generalize f i 0 = s0 at *
      generalize f i 1 = s1 at *
      generalize f i 2 = s2 at *
      generalize f i 3 = s3 at *
      obtain ⟨p, hp3, hp⟩ := and_bd s0 3 (by omega)
      have hp : bits .and .i64 s0 3 = (p : Int) := hp
      obtain ⟨t0, t1, t2, t3⟩ : wr.cell? ⟨b, off + i * 4, none⟩ = some (.int .i64 s0) ∧ wr.cell? ⟨b, off + i * 4 + 1, none⟩ = some (.int .i64 s1) ∧ wr.cell? ⟨b, off + i * 4 + 2, none⟩ = some (.int .i64 s2) ∧ wr.cell? ⟨b, off + i * 4 + 3, none⟩ = some (.int .i64 s3) := by
        obtain ⟨st, n, r, hr, hO, hn⟩ := hrel.out
        exact TA.out _ _ hO
      go_upto_block 2 with (fail)
      clear t0 t1 t2 t3 TA
      go_cut [] (fun wc => Hid (SumRel w0 F g (i + 1) wc))
      case first =>
        obtain ⟨st, n, r, hr, hO, hn⟩ := hrel.out
        have hOs := hO.alloc (.cells #[.int .i64 s0, .int .i64 s1, .int .i64 s2, .int .i64 s3] 43)
        have hOs2 := hOs.perm (List.perm_middle (l₁ := r)).symm
        have hn6 : n ≤ 1000000 := by omega
        rcases (show p = 0 ∨ p = 1 ∨ p = 2 ∨ p = 3 by omega) with rfl | rfl | rfl | rfl
        · obtain ⟨cc, st', -, CP⟩ := dq_push_r (w0 := w0) hn6 s1 s2 s3 hr
          have CP0 := Lib.hid (CP _ _ hOs2)
          clear CP hr hrel hO hOs hOs2 hp
          go_wp2_with fail
          go_at_call 10
          refine (CP0.out).mono ?_
          rintro e w3 ⟨rfl, n', r', hn', hr', hO'⟩
          have HN := Lib.hid (show SumRel w0 F g (i + 1) w3 from ⟨st', n', r', hr', hO'.sub (List.Sublist.append (List.Sublist.refl _) (List.sublist_cons_self _ _)), by omega⟩)
          clear CP0 hr' hO' hn'
          go_wp2_with fail
          go_meet
          case rel => exact HN
        · obtain ⟨cc, st', -, CP⟩ := dq_unlink_r (w0 := w0) hn6 s2 hx hr
          have CP0 := Lib.hid (CP _ _ hOs2)
          clear CP hr hrel hO hOs hOs2 hp
          go_wp2_with fail
          go_at_call 14
          refine (CP0.out).mono ?_
          rintro e w3 ⟨rfl, n', r', hn', hr', hO'⟩
          have HN := Lib.hid (show SumRel w0 F g (i + 1) w3 from ⟨st', n', r', hr', hO'.sub (List.Sublist.append (List.Sublist.refl _) (List.sublist_cons_self _ _)), by omega⟩)
          clear CP0 hr' hO' hn'
          go_wp2_with fail
          go_meet
          case rel => exact HN
        · obtain ⟨cc, st', -, CP⟩ := dq_move_r (w0 := w0) hn6 s2 s1 hx hr
          have CP0 := Lib.hid (CP _ _ hOs2)
          clear CP hr hrel hO hOs hOs2 hp
          go_wp2_with fail
          go_at_call 17
          refine (CP0.out).mono ?_
          rintro e w3 ⟨rfl, n', r', hn', hr', hO'⟩
          have HN := Lib.hid (show SumRel w0 F g (i + 1) w3 from ⟨st', n', r', hr', hO'.sub (List.Sublist.append (List.Sublist.refl _) (List.sublist_cons_self _ _)), by omega⟩)
          clear CP0 hr' hO' hn'
          go_wp2_with fail
          go_meet
          case rel => exact HN
        · obtain ⟨cc, st', -, CP⟩ := dq_reweigh_r (w0 := w0) hn6 s2 s3 hx hr
          have CP0 := Lib.hid (CP _ _ hOs2)
          clear CP hr hrel hO hOs hOs2 hp
          go_wp2_with fail
          go_at_call 24
          refine (CP0.out).mono ?_
          rintro e w3 ⟨rfl, n', r', hn', hr', hO'⟩
          have HN := Lib.hid (show SumRel w0 F g (i + 1) w3 from ⟨st', n', r', hr', hO'.sub (List.Sublist.append (List.Sublist.refl _) (List.sublist_cons_self _ _)), by omega⟩)
          clear CP0 hr' hO' hn'
          go_wp2_with fail
          go_meet
          case rel => exact HN
      case rest =>
        clear hrel hp hp3 hx
        go_wp2_with fail
        go_loopw [7] (fun x7 wr => ∃ k : Nat, k ≤ 3 ∧ x7 = .int .i64 (k : Int) ∧ Hid (SumRel w0 F g (i + 1) wr)) (fun x7 _ => 3 - (intOf x7).toNat)
        case atStart => exact ⟨0, by omega, rfl, hcut⟩
        case round =>
          clear hcut
          obtain ⟨k, hk, rfl, hrel⟩ := hrel
          by_cases hk3 : k < 3
          · obtain ⟨st, n, r, hr, hO, hn⟩ := hrel.out
            clear hrel
            have RC := row_calls hr (by omega) (k : Int) 1000 (by omega) hO
            have hlen := hr.len hk3
            have hids : (idsAt 3 st (k : Int)).take 1000 = (st k).map (·.1) := by
              unfold idsAt
              rw [if_pos (by omega), Int.toNat_natCast, List.take_of_length_le (by rw [List.length_map]; omega)]
            rw [hids] at RC
            obtain ⟨M, hM⟩ : ∃ M, ((st k).map (·.1)).length = M := ⟨_, rfl⟩
            have hM2 : (st k).length = M := by rw [← hM, List.length_map]
            have hML : M ≤ 151 := by omega
            have RC0 := Lib.hid RC
            have HR := Lib.hid hr
            have HM := Lib.hid hM
            have HM2 := Lib.hid hM2
            clear RC hids hr hM hM2 hlen hO
            go_wp2_with fail
            go_at_call 18
            refine (RC0.out).mono ?_
            rintro e w5 ⟨v5, q5, rfl, hrow, hO5⟩
            have HRD := Lib.hid (show ∀ W (X : Sep.Own), Owned w0 W (q5 ++ X) → Reads W v5 ((st k).map (·.1)) from fun W X h => reads_of_row hrow (by rw [HM.out]; omega) h)
            obtain ⟨A5, c5, rfl⟩ := hrow.slice
            have HO5 := Lib.hid hO5
            clear hO5 hrow RC0
            rw [HM.out]
            rw [HM.out] at HRD
            go_wp2_with fail
            go_loopw [9, 10] (fun x9 x10 wr => ∃ (j : Nat) (y : Int), j ≤ M ∧ 0 ≤ y ∧ y ≤ (j : Int) * 2147483648 ∧ x9 = .int .i64 y ∧ x10 = .int .i64 (j : Int) ∧ Hid (sumW ((st k).take j) = y ∧ Owned w0 wr (q5 ++ (r ++ F)))) (fun _ x10 _ => M - (intOf x10).toNat)
            case atStart => exact ⟨0, 0, Nat.zero_le _, by omega, by omega, rfl, rfl, Lib.hid ⟨rfl, HO5.out⟩⟩
            case round =>
              clear HO5
              obtain ⟨j, y, hj, hy0, hy1, rfl, rfl, hrel⟩ := hrel
              obtain ⟨hy, hO⟩ := hrel.out
              clear hrel
              by_cases hlj : j < M
              · have hjl : j < (st k).length := by rw [HM2.out]; exact hlj
                have hs := take_split (st k) hjl
                have hts := take_sum (st k) hjl
                obtain ⟨x, hx⟩ : ∃ x, ((st k).map (·.1)).getD j 0 = x := ⟨_, rfl⟩
                obtain ⟨z, hz⟩ : ∃ z, ((st k).map (·.2)).getD j 0 = z := ⟨_, rfl⟩
                rw [hx, hz] at hs
                rw [hz] at hts
                obtain ⟨-, A6, c6, hA6, hcl⟩ := HRD.out _ _ hO
                rw [HM.out] at hcl hA6
                obtain ⟨b6, o6, rfl, -⟩ := hcl (by omega)
                injection hA6 with e1 e2 e3
                subst e1
                have HCELL := Lib.hid (show ∀ W (X : Sep.Own), Owned w0 W (q5 ++ X) → ∀ i, i < M → W.cell? ⟨b6, o6 + i, none⟩ = some (.int .i64 (((st k).map (·.1)).getD i 0)) from fun W X h i hi => by
                  obtain ⟨-, A7, c7, hA7, hcl7⟩ := HRD.out _ _ h
                  rw [HM.out] at hcl7 hA7
                  obtain ⟨b7, o7, rfl, hq7⟩ := hcl7 (by omega)
                  injection hA7 with e4 e5 e6
                  injection e4 with e4
                  injection e4 with e7 e8
                  subst e7 e8
                  exact hq7 i hi)
                have hmem : ((x, z) : Int × Int) ∈ st k := mem_of_split hs
                obtain ⟨hx1, hz1, hz2⟩ := HR.out.fine hk3 hmem
                have HNE := Lib.hid (show ∀ i, i < j → ((st k).map (·.1)).getD i 0 ≠ x from fun i hi => by
                  rw [← hx]
                  have hnd := HR.out.nd hk3
                  have h1 : i < ((st k).map (·.1)).length := by rw [HM.out]; omega
                  have h2 : j < ((st k).map (·.1)).length := by rw [HM.out]; omega
                  simp only [List.getD_eq_getElem?_getD, List.getElem?_eq_getElem h1, List.getElem?_eq_getElem h2, Option.getD_some]
                  exact fun e => absurd ((List.getElem_inj hnd).1 e) (by omega))
                have cx := HCELL.out _ _ hO j hlj
                rw [hx] at cx
                have HX := Lib.hid hx
                have CO := Lib.hid (dq_of_some HR.out (wfk_id hx1) hk3 hs hO.comm)
                have HTS := Lib.hid (hts.trans (by rw [hy]))
                have HO := Lib.hid hO
                have hy2 : y + z ≤ ((j + 1 : Nat) : Int) * 2147483648 := by
                  have : ((j + 1 : Nat) : Int) * 2147483648 = (j : Int) * 2147483648 + 2147483648 := by omega
                  omega
                have hy3 : y ≤ 324270030848 := by omega
                have HY2 := Lib.hid hy2
                clear hy1 hy2 hs hts hcl hmem hx1 hy hO hjl e2 e3 hx hz
                go_wp2_with fail
                go_at_call 16
                refine (CO.out).mono ?_
                rintro e w6 ⟨rfl, hb6⟩
                have HO6 := Lib.hid (HO.out.under hb6)
                clear hb6 CO HO cx
                go_wp2_with fail
                go_loopw [13] (fun x13 wr => ∃ gg : Nat, gg ≤ j ∧ x13 = .int .i64 (gg : Int) ∧ Hid (Owned w0 wr (q5 ++ (r ++ F)))) (fun x13 _ => j - (intOf x13).toNat)
                case atStart => exact ⟨0, Nat.zero_le _, rfl, HO6⟩
                case round =>
                  clear HO6
                  obtain ⟨gg, hgg, rfl, hrel⟩ := hrel
                  by_cases hlg : gg < j
                  · have cg := HCELL.out _ _ hrel.out gg (by omega)
                    have cj := HCELL.out _ _ hrel.out j hlj
                    rw [HX.out] at cj
                    have hne := HNE.out gg hlg
                    obtain ⟨y1, hy1⟩ : ∃ y1, ((st k).map (·.1)).getD gg 0 = y1 := ⟨_, rfl⟩
                    rw [hy1] at cg hne
                    have hne1 : (y1 == x) = false := by simpa using hne
                    have hne2 : decide (y1 = x) = false := by simpa using hne
                    have hlgM : gg < M := by omega
                    have HO := Lib.hid hrel.out.drew
                    clear hy1 hne hrel
                    go_wp2_with fail
                    go_region_with (fail)
                    all_goals go_wp2_with fail
                    all_goals go_roundw
                    all_goals first | exact ⟨gg + 1, by omega, by go_num, HO⟩ | (simp [intOf]; omega)
                  · obtain rfl : gg = j := by omega
                    have HN := Lib.hid (show sumW ((st k).take (gg + 1)) = y + z ∧ Owned w0 wr (q5 ++ (r ++ F)) from ⟨HTS.out, hrel.out⟩)
                    clear hrel hlg HNE HTS HX HCELL
                    go_wp2_with fail
                    go_roundw
                    case rel => exact ⟨gg + 1, y + z, by omega, by omega, HY2.out, by go_num, by go_num, HN⟩
                    case measure => simp [intOf]; omega
              · obtain rfl : j = M := by omega
                have hy' : sumW (st k) = y := by
                  rw [List.take_of_length_le (by rw [HM2.out]; omega)] at hy
                  exact hy
                have CW := dq_weight_some (k := k) HR.out hk3 hO.comm
                rw [hy'] at CW
                have CL := Lib.hid (fun (W : World) (h : Owned w0 W (r ++ (q5 ++ F))) => (by have h9 := dq_len_some (k := k) HR.out hk3 h; rw [HM2.out] at h9; exact h9 : Calls Try.prog 13 #[.pointer (some ⟨g, 0, none⟩), .int .i64 (k : Int)] W fun e w' => e = .returned (.int .i64 (j : Int)) ∧ Below W.heap.size W w'))
                have CW0 := Lib.hid CW
                have HO := Lib.hid hO.comm
                clear CW hO hy hy' hlj hy1
                go_wp2_with fail
                go_at_call 15
                refine (CW0.out).mono ?_
                rintro e w7 ⟨rfl, hb7⟩
                have HO7 := Lib.hid (HO.out.under hb7)
                clear hb7 CW0 HO
                go_wp2_with fail
                go_at_call 13
                refine (CL.out _ HO7.out).mono ?_
                rintro e w8 ⟨rfl, hb8⟩
                have HN := Lib.hid (show SumRel w0 F g (i + 1) w8 from ⟨st, n, r, HR.out, (HO7.out.under hb8).sub (List.Sublist.append (List.Sublist.refl _) (List.sublist_append_right _ _)), hn⟩)
                clear hb8 CL HO7 HRD HR HM HM2
                go_wp2_with fail
                go_roundw
                case rel => exact ⟨k + 1, by omega, by go_num, HN⟩
                case measure => simp [intOf]; omega
          · obtain rfl : k = 3 := by omega
            clear hk3
            go_wp2_with fail
            go_roundw
            case rel => exact ⟨i + 1, by omega, by go_num, hrel⟩
            case measure => simp [intOf]; omega
    · obtain rfl : i = N := by omega
      have hO : Below w0.heap.size w0 wr := by
        obtain ⟨st, n, r, hr, hO, -⟩ := hrel.out
        exact hO.below
      clear hrel HBD HC
      go_wp2_with fail
      go_ret
      exact ⟨rfl, hO⟩
end
end Go.Proofs.Ytlnokijfmkldkaa
