/- Layer 11, PolicyHolds: the walk. -/
import Derived.Test.YtnhdjpeadhcajaaK51
import Derived.BigQuiet
import Derived.Lib.QuietBelow
import Derived.Deep.CutBlock
import Derived.Deep.DeepCutAuto
namespace Go.Proofs.Ytnhdjpeadhcajaa
open Go.RowKit Go.Sep DqPure
set_option maxRecDepth 100000
theorem permG1 (T rL rW rg E rI rH F : Go.Sep.Own) : (T ++ (rL ++ (rW ++ (rg ++ (E ++ (rI ++ (rH ++ (F)))))))).Perm (rI ++ (T ++ (rL ++ (rW ++ (rg ++ (E ++ (rH ++ (F)))))))) :=
  ((List.Perm.append_left T (perm5 rL rW rg E rI _)).trans (perm2 T rI _)).trans (List.Perm.append_left rI (List.Perm.refl _))
theorem permG2 (T rL rW rg E rI rH F : Go.Sep.Own) : (T ++ (rL ++ (rW ++ (rg ++ (E ++ (rI ++ (rH ++ (F)))))))).Perm (rH ++ (T ++ (rL ++ (rW ++ (rg ++ (E ++ (rI ++ (F)))))))) :=
  ((List.Perm.append_left T ((List.Perm.append_left rL (perm5 rW rg E rI rH _)).trans (perm2 rL rH _))).trans (perm2 T rH _)).trans (List.Perm.append_left rH (List.Perm.refl _))
theorem permG3 (T rL rW rg E rI rH F : Go.Sep.Own) : (T ++ (rL ++ (rW ++ (rg ++ (E ++ (rI ++ (rH ++ (F)))))))).Perm (E ++ (T ++ (rL ++ (rW ++ (rg ++ (rI ++ (rH ++ (F)))))))) :=
  (perm5 T rL rW rg E _).trans (List.Perm.append_left E (List.Perm.refl _))
theorem permG4 (T rL rW rg E rI rH F : Go.Sep.Own) : (T ++ (rL ++ (rW ++ (rg ++ (E ++ (rI ++ (rH ++ (F)))))))).Perm (rg ++ (T ++ (rL ++ (rW ++ (E ++ (rI ++ (rH ++ (F)))))))) :=
  (perm4 T rL rW rg _).trans (List.Perm.append_left rg (List.Perm.refl _))
theorem permG5 (T rL rW G : Go.Sep.Own) : (T ++ (rL ++ (rW ++ (G)))).Perm (rL ++ (T ++ (rW ++ (G)))) :=
  (perm2 T rL _).trans (List.Perm.append_left rL (List.Perm.refl _))
theorem permG6 (rL T rW G : Go.Sep.Own) : (rL ++ (T ++ (rW ++ (G)))).Perm (rW ++ (rL ++ (T ++ (G)))) :=
  (perm3 rL T rW _).trans (List.Perm.append_left rW (List.Perm.refl _))
theorem permG7 (rW rL T G : Go.Sep.Own) : (rW ++ (rL ++ (T ++ (G)))).Perm (T ++ (rL ++ (rW ++ (G)))) :=
  (perm3 rW rL T _).trans (List.Perm.append_left T ((perm2 rW rL _).trans (List.Perm.append_left rL (List.Perm.refl _))))
theorem permH1 (T rg E rI rH F : Go.Sep.Own) : (T ++ (rg ++ (E ++ (rI ++ (rH ++ (F)))))).Perm (rI ++ (T ++ (rg ++ (E ++ (rH ++ (F)))))) :=
  (perm4 T rg E rI _).trans (List.Perm.append_left rI (List.Perm.refl _))
theorem permH2 (rI T rg E rH F : Go.Sep.Own) : (rI ++ (T ++ (rg ++ (E ++ (rH ++ (F)))))).Perm (rH ++ (rI ++ (T ++ (rg ++ (E ++ (F)))))) :=
  (perm5 rI T rg E rH _).trans (List.Perm.append_left rH (List.Perm.refl _))
theorem permH3 (rH rI T rg E F : Go.Sep.Own) : (rH ++ (rI ++ (T ++ (rg ++ (E ++ (F)))))).Perm (T ++ (rg ++ (E ++ (rI ++ (rH ++ (F)))))) :=
  (perm3 rH rI T _).trans (List.Perm.append_left T ((perm3 rH rI rg _).trans (List.Perm.append_left rg ((perm3 rH rI E _).trans (List.Perm.append_left E ((perm2 rH rI _).trans (List.Perm.append_left rI (List.Perm.refl _))))))))
section
variable {w0 : World}
set_option maxHeartbeats 25600000 in
theorem phol_walk (cap seed : Int) (v : Value) (len : Nat) (f : Nat → Nat → Int) (hv : ReadsR 4 w0 v len f) (h1 : len ≤ 200) (h2 : 0 ≤ cap ∧ cap ≤ 1024) :
    Calls Try.prog 3 #[.int .i64 cap, .int .i64 seed, v] w0 fun e w' => e = .returned (.bool true) ∧ Below w0.heap.size w0 w' := by
  obtain ⟨F, hF⟩ : ∃ F : Sep.Own, [] = F := ⟨_, rfl⟩
  have hO0 : Owned w0 w0 F := by rw [← hF]; exact Owned.nil w0
  have cs := small_own hO0
  have hw : ∀ i j, i < len → j < 4 → wfk (f i j) := fun i j hi hj => wfk_of (hv.2.1 i j hi hj).1 (hv.2.1 i j hi hj).2
  have HW := Lib.hid hw
  obtain ⟨-, -, A, c, rfl, hA, -⟩ := hv
  have HA := Lib.hid hA
  have hnc : newC cap = cap := by unfold newC; omega
  have HNC := Lib.hid hnc
  have g1 : decide (200 < len) = false := by simp; omega
  have g2 : decide (200 < (len : Int)) = false := by simp; omega
  have g3 : decide (1024 < cap) = false := by simp; omega
  have g4 : decide (cap < 0) = false := by simp; omega
  clear hF hO0 hA hw hnc
  go_enter Try.func3, Try.ntmps3
  go_wp2_with fail
  go_at_call 9
  refine (cs).mono ?_
  rintro e w1 ⟨rfl, hO1⟩
  have q1 := y_new cap seed hO1
  clear cs hO1
  go_wp2_with fail
  go_at_call 10
  refine (q1).mono ?_
  rintro e w2 ⟨g, rfl, hs2⟩
  have HS2 := Lib.hid hs2
  clear q1 hs2
  go_wp2_with fail
  go_loopw [9, 10, 11] (fun x9 x10 x11 wr => ∃ i : Nat, i ≤ len ∧ x11 = .int .i64 (i : Int) ∧ Hid (HolRel w0 F g cap i x9 x10 wr)) (fun _ _ x11 _ => len - (intOf x11).toNat)
  case atStart => exact ⟨0, Nat.zero_le _, rfl, Lib.hid ⟨PSt.new cap seed, [], [], [], Row.nil _ _, Row.nil _ _, List.Perm.refl _, new_good _ _, HNC.out, (show (0 : Int) + 0 + 0 ≤ newC cap by rw [HNC.out]; omega), Nat.le_refl _, HS2.out⟩⟩
  case round =>
    obtain ⟨i, hi, rfl, hrel⟩ := hrel
    obtain ⟨P, L, rI, rH, hrI, hrH, hper, hG, hcap, hwt, hLi, hs⟩ := hrel.out
    clear hrel HS2 HNC
    by_cases hlt : i < len
    · obtain ⟨b, off, rfl, hcells⟩ := HA.out (by omega)
      have hbel := hs.below
      have t0 : wr.cell? ⟨b, off + i * 4, none⟩ = some (.int .i64 (f i 0)) := (hbel.cell (World.block_lt_of_cell? _ _ (hcells i 0 hlt (by omega)))).trans (hcells i 0 hlt (by omega))
      have t1 : wr.cell? ⟨b, off + i * 4 + 1, none⟩ = some (.int .i64 (f i 1)) := (hbel.cell (World.block_lt_of_cell? _ _ (hcells i 1 hlt (by omega)))).trans (hcells i 1 hlt (by omega))
      have t2 : wr.cell? ⟨b, off + i * 4 + 2, none⟩ = some (.int .i64 (f i 2)) := (hbel.cell (World.block_lt_of_cell? _ _ (hcells i 2 hlt (by omega)))).trans (hcells i 2 hlt (by omega))
      have t3 : wr.cell? ⟨b, off + i * 4 + 3, none⟩ = some (.int .i64 (f i 3)) := (hbel.cell (World.block_lt_of_cell? _ _ (hcells i 3 hlt (by omega)))).trans (hcells i 3 hlt (by omega))
      have hw1 := HW.out i 1 hlt (by omega)
      have hw2 := HW.out i 2 hlt (by omega)
      clear hcells hbel
      generalize f i 0 = d at *
      generalize f i 1 = nd at *
      generalize f i 2 = key at *
      generalize f i 3 = wt at *
      obtain ⟨T, hT, hT2⟩ := hs.opened
      have hOe := hT.alloc (.cells #[.int .i64 d, .int .i64 nd, .int .i64 key, .int .i64 wt] 28)
      have hs3 : Stands w0 (evB wr.heap.size d nd key wt :: (rI ++ (rH ++ F))) g (2 * i) P _ := hT2 _ _ (hOe.perm List.perm_middle.symm)
      have HS3 := Lib.hid hs3
      have HW1 := Lib.hid hw1
      have HW2 := Lib.hid hw2
      have hspec := holds_step hG hwt hper d nd key wt
      have haspec := act_spec hG d nd key wt
      rw [hcap] at haspec
      obtain ⟨AI, cI, rfl⟩ := hrI.slice
      obtain ⟨AH, cH, rfl⟩ := hrH.slice
      have HRI := Lib.hid hrI
      have HRH := Lib.hid hrH
      rw [ids_len] at HRI
      rw [wts_len] at HRH
      obtain ⟨n, hn⟩ : ∃ n, L.length = n := ⟨_, rfl⟩
      have eI : (idsL L).length = n := by rw [ids_len, hn]
      have eH : (wtsL L).length = n := by rw [wts_len, hn]
      rw [hn] at HRI HRH hLi
      simp only [eI, eH]
      have HN := Lib.hid hn
      rw [hn] at hspec
      obtain ⟨⟨P', gone, err⟩, hact⟩ : ∃ x, P.act d nd key wt = x := ⟨_, rfl⟩
      rw [hact] at hspec haspec
      dsimp only at hspec haspec
      have HSPEC := Lib.hid hspec
      have HASPEC := Lib.hid (And.intro haspec.1 haspec.2.1)
      have HACT := Lib.hid hact
      clear hspec haspec hact
      have d0 : decide ((i : Int) < (len : Int)) = true := by simp; omega
      clear hs hT hT2 hOe hs3 hw1 hw2 hper hG hcap hwt hrI hrH hn eI eH
      have HCI := Lib.hid (fun (hp : 0 < n) => row_cell (w0 := w0) (v := .slice AI n cI) (l := idsL L) (by rw [ids_len, HN.out]; exact HRI.out) (by rw [ids_len, HN.out]; exact hp))
      have HCH := Lib.hid (fun (hp : 0 < n) => row_cell (w0 := w0) (v := .slice AH n cH) (l := wtsL L) (by rw [wts_len, HN.out]; exact HRH.out) (by rw [wts_len, HN.out]; exact hp))
      obtain ⟨eb, heb⟩ : ∃ eb, wr.heap.size = eb := ⟨_, rfl⟩
      rw [heb] at HS3
      go_wp2_with fail
      generalize (wr.alloc (.cells #[.int .i64 d, .int .i64 nd, .int .i64 key, .int .i64 wt] 28)) = w3 at *
      clear t0 t1 t2 t3 heb
      go_loopw [13, 14] (fun x13 x14 wq => ∃ k : Nat, k ≤ n ∧ x14 = .int .i64 (k : Int) ∧ x13 = .int .i64 (wasF nd L k) ∧ Hid (Stands w0 (evB eb d nd key wt :: (rI ++ (rH ++ F))) g (2 * i) P wq)) (fun _ x14 _ => n - (intOf x14).toNat)
      case atStart => exact ⟨0, Nat.zero_le _, rfl, rfl, HS3⟩
      case round =>
        obtain ⟨k, hk, rfl, rfl, hs⟩ := hrel
        replace hs := hs.out
        clear HS3
        by_cases hkn : k < n
        · as_aux_lemma =>
          obtain ⟨bI, cI', hvI, hcI⟩ := HCI.out (by omega)
          obtain ⟨bH, cH', hvH, hcH⟩ := HCH.out (by omega)
          injection hvI with z1 z2 z3
          injection hvH with z4 z5 z6
          subst z1
          subst z4
          clear z2 z3 z5 z6
          have hfI : ∀ W, Stands w0 (evB eb d nd key wt :: (rI ++ (rH ++ F))) g (2 * i) P W → W.cell? ⟨bI, k, none⟩ = some (.int .i64 (atL L k).1) ∧ W.cell? ⟨bH, k, none⟩ = some (.int .i64 (atL L k).2) := fun W hW => by
            obtain ⟨q1, hO1⟩ := Stands.front (A := [evB eb d nd key wt]) (B := rI) (G := rH ++ F) hW
            obtain ⟨q2, hO2⟩ := Stands.front (A := evB eb d nd key wt :: rI) (B := rH) (G := F) hW
            have e1 := hcI W q1 hO1 k (by rw [ids_len, HN.out]; exact hkn)
            have e2 := hcH W q2 hO2 k (by rw [wts_len, HN.out]; exact hkn)
            rw [(ids_at (by rw [HN.out]; exact hkn)).1] at e1
            rw [(ids_at (by rw [HN.out]; exact hkn)).2] at e2
            exact ⟨e1, e2⟩
          obtain ⟨u1, -⟩ := hfI _ hs
          obtain ⟨-, u2, -, -⟩ := hs.ev
          have HFI := Lib.hid hfI
          have HWAS := Lib.hid (show wasF nd L (k + 1) = if (atL L k).1 = nd then (atL L k).2 else wasF nd L k from rfl)
          replace u1 := cell_regrown u1
          replace u2 := cell_regrown u2
          have HS := Lib.hid hs
          have dk : decide ((k : Int) < (n : Int)) = true := by simp; omega
          clear hfI hcI hcH hs
          generalize (atL L k).1 = pid at *
          generalize (atL L k).2 = pw at *
          generalize wasF nd L k = wk at *
          by_cases he : pid = nd
          · subst he
            go_wp2_with fail
            refine wp_region_quiet_below (by kernel_rfl) (by kernel_rfl) ?_
            repeat (first | go_big_quiet_step ((first | (go_at_call 14; with_reducible exact Calls.regrown_of ((fail))))) | quiet_step ((first | (go_at_call 14; with_reducible exact Calls.regrown_of ((fail))))))
            refine wpQuiet_nil ?_
            intro _ hw'
            obtain ⟨⟨dq, osq⟩, hw''⟩ := hw'
            subst hw''
            have HS4 := Lib.hid (HS.out.under (below_regrown _ dq osq))
            generalize (Go.Sort.grow (redrawn _ dq) osq) = w4 at *
            obtain ⟨-, u3⟩ := HFI.out _ HS4.out
            clear u1 u2 HS
            go_wp2_with fail
            go_roundw
            case rel => exact ⟨k + 1, hkn, by go_num, by rw [HWAS.out]; simp, HS4⟩
            case measure => simp [intOf]; omega
          · have d1 : decide (pid = nd) = false := by simp only [decide_eq_false_iff_not]; exact he
            go_wp2_with fail
            refine wp_region_quiet_below (by kernel_rfl) (by kernel_rfl) ?_
            repeat (first | go_big_quiet_step ((first | (go_at_call 14; with_reducible exact Calls.regrown_of ((fail))))) | quiet_step ((first | (go_at_call 14; with_reducible exact Calls.regrown_of ((fail))))))
            refine wpQuiet_nil ?_
            intro _ hw'
            obtain ⟨⟨dq, osq⟩, hw''⟩ := hw'
            subst hw''
            have HS4 := Lib.hid (HS.out.under (below_regrown _ dq osq))
            generalize (Go.Sort.grow (redrawn _ dq) osq) = w4 at *
            clear u1 u2 HS
            go_wp2_with fail
            go_roundw
            case rel => exact ⟨k + 1, hkn, by go_num, by rw [HWAS.out, if_neg he], HS4⟩
            case measure => simp [intOf]; omega
        · obtain rfl : k = n := by omega
          generalize wasF nd L k = was at *
          have hh := has_calls (.slice AI k cI) (idsL L) nd _ ((hs.perm (perm2 [evB eb d nd key wt] rI (rH ++ F))).reads (by rw [ids_len, HN.out]; exact HRI.out))
          obtain ⟨e0, e1, e2, e3⟩ := hs.ev
          have q5 := y_doL hs (by omega) d nd key wt HW1.out HW2.out
          rw [HACT.out] at q5
          dsimp only at q5
          have Q5 := Lib.hid q5
          obtain ⟨th, hth⟩ : ∃ th, decide (nd ∈ idsL L) = th := ⟨_, rfl⟩
          rw [hth] at hh
          have HTH := Lib.hid hth
          have dk : decide ((k : Int) < (k : Int)) = false := by simp
          clear hs q5 hth HCI HCH
          go_wp2_with fail
          go_at_call 11
          refine (hh).mono ?_
          rintro e w4 ⟨rfl, rfl⟩
          clear hh
          go_wp2_with fail
          go_at_call 12
          refine (Q5.out).mono ?_
          rintro e w5 ⟨v5, rg, rfl, hr5, hs5, hgl⟩
          obtain ⟨AG, cG, rfl⟩ := hr5.slice
          have HRG := Lib.hid hr5
          obtain ⟨m, hm⟩ : ∃ m, gone.length = m := ⟨_, rfl⟩
          rw [hm] at hgl
          have HM := Lib.hid hm
          simp only [hm]
          have HS5 := Lib.hid hs5
          have hev5 : w5.cell? ⟨eb, 0, none⟩ = some (.int .i64 d) ∧ w5.cell? ⟨eb, 1, none⟩ = some (.int .i64 nd) ∧ w5.cell? ⟨eb, 2, none⟩ = some (.int .i64 key) ∧ w5.cell? ⟨eb, 3, none⟩ = some (.int .i64 wt) := (hs5.perm (perm2 rg [evB eb d nd key wt] (rI ++ (rH ++ F)))).ev
          obtain ⟨f0, f1, f2, f3⟩ := hev5
          clear e0 e1 e2 e3 hr5 hs5 hm Q5 HACT
          obtain ⟨bA, hbA⟩ : ∃ b, decide (err = 0 ∧ d = 1) = b := ⟨_, rfl⟩
          have HBA := Lib.hid hbA
          clear hbA
          go_upto_region 21 with (fail)
          go_cut [89] (fun x89 wc => wc = w5 ∧ x89 = .bool bA)
          case first => as_aux_lemma =>
            by_cases he : err = 0
            · subst he
              by_cases hd : d = 1
              · subst hd
                go_wp2_with fail
                go_meet
                case rel => exact ⟨rfl, by rw [← HBA.out]; rfl⟩
              · have d1 : decide (d = 1) = false := by simp only [decide_eq_false_iff_not]; exact hd
                have d2 : (d == 1) = false := by simp; exact hd
                have HD := Lib.hid (show decide ((0 : Int) = 0 ∧ d = 1) = false from decide_eq_false (fun h => hd h.2))
                go_wp2_with fail
                go_meet
                case rel => exact ⟨rfl, by rw [← HBA.out, HD.out]⟩
            · have d1 : (err == 0) = false := by simp; exact he
              have HD := Lib.hid (show decide (err = 0 ∧ d = 1) = false from decide_eq_false (fun h => he h.1))
              go_wp2_with fail
              go_meet
              case rel => exact ⟨rfl, by rw [← HBA.out, HD.out]⟩
          case rest =>
            obtain ⟨rfl, rfl⟩ := hcut
            obtain ⟨L1, hL1⟩ : ∃ L1, L1 = if err = 0 ∧ d = 1 then L ++ [(nd, wt)] else L := ⟨_, rfl⟩
            obtain ⟨n1, hn1⟩ : ∃ n1, L1.length = n1 := ⟨_, rfl⟩
            have HL1 := Lib.hid hL1
            have HN1 := Lib.hid hn1
            have hnb : n1 ≤ k + 1 := by
              rw [← hn1, hL1]
              split
              · rw [List.length_append, HN.out]; exact Nat.le_refl _
              · rw [HN.out]; omega
            clear hL1 hn1
            go_upto_if 89 with (fail)
            go_cut [9, 10] (fun x9 x10 wc => ∃ rI2 rH2, Hid (Row 3 1 x9 n1 (ints (idsL L1)) rI2) ∧ Hid (Row 3 1 x10 n1 (ints (wtsL L1)) rH2) ∧ Hid (Stands w0 (rg ++ (evB eb d nd key wt :: (rI2 ++ (rH2 ++ F)))) g (2 * i + 2) P' wc))
            case first => as_aux_lemma =>
              cases bA with
              | true =>
                have hAA : err = 0 ∧ d = 1 := of_decide_eq_true HBA.out
                have e1 : L1 = L ++ [(nd, wt)] := by rw [HL1.out, if_pos hAA]
                have e2 : n1 = k + 1 := by rw [← HN1.out, e1, List.length_append, HN.out]; rfl
                obtain ⟨T, hT, hT2⟩ := HS5.out.opened
                have hO1 := hT.perm (permH1 T rg [evB eb d nd key wt] rI rH F)
                have HO1 := Lib.hid hO1
                have HT2 := Lib.hid hT2
                have HE1 := Lib.hid e1
                have hm1 : k + 1 ≤ maxLen := by unfold maxLen; omega
                have hm2 : (k + 1) * 8 ≤ 140737488355328 := by omega
                subst e2
                clear hT hT2 hO1 e1 hAA
                go_wp2_with (first
                  | (at_builtin; refine append_one rfl (.tmp 90) (.tmp 93) 26 rfl 3 (.int .i64 0) 8 Try.underlying26 info_int8 rfl _ k _ rI _ _ rfl HRI.out HO1.out rfl rfl hm1 hm2 ?_; intro v6 r6 w6 hr6 hO6; have HR6 := Lib.hid hr6; have HO6 := Lib.hid (hO6.perm (permH2 r6 T rg [evB eb d nd key wt] rH F)); have h6c := ev_of (q := rH ++ (r6 ++ (T ++ rg))) (F := F) (by simpa only [List.append_assoc, List.cons_append, List.nil_append] using HO6.out); obtain ⟨s0, s1, s2, s3⟩ := h6c; clear hr6 hO6 HO1)
                  | (at_builtin; refine append_one rfl (.tmp 95) (.tmp 98) 26 rfl 3 (.int .i64 0) 8 Try.underlying26 info_int8 rfl _ k _ rH _ _ rfl HRH.out HO6.out rfl rfl hm1 hm2 ?_; intro v7 r7 w7 hr7 hO7; have HR7 := Lib.hid hr7; have HO7 := Lib.hid (hO7.perm (permH3 r7 r6 T rg [evB eb d nd key wt] F)); clear hr7 hO7 HO6))
                go_meet
                case rel =>
                  refine ⟨r6, r7, Lib.hid ?_, Lib.hid ?_, Lib.hid (HT2.out _ _ HO7.out)⟩
                  · rw [HE1.out, show idsL (L ++ [(nd, wt)]) = idsL L ++ [nd] from List.map_append, ints_snoc]
                    exact HR6.out
                  · rw [HE1.out, show wtsL (L ++ [(nd, wt)]) = wtsL L ++ [wt] from List.map_append, ints_snoc]
                    exact HR7.out
              | false =>
                have hAA : ¬ (err = 0 ∧ d = 1) := of_decide_eq_false HBA.out
                have e1 : L1 = L := by rw [HL1.out, if_neg hAA]
                have e2 : n1 = k := by rw [← HN1.out, e1, HN.out]
                have HE1 := Lib.hid e1
                subst e2
                clear e1 hAA
                go_wp2_with fail
                go_meet
                case rel => exact ⟨rI, rH, Lib.hid (by rw [HE1.out]; exact HRI.out), Lib.hid (by rw [HE1.out]; exact HRH.out), HS5⟩
            case rest =>
              obtain ⟨rI2, rH2, hrI2, hrH2, hs6⟩ := hcut
              obtain ⟨AI2, cI2, rfl⟩ := hrI2.out.slice
              obtain ⟨AH2, cH2, rfl⟩ := hrH2.out.slice
              clear HS5 HRI HRH f0 f1 f2 f3 HBA
              have hspec := HSPEC.out L1 HL1.out (decide (err = 0 ∧ d = 3)) (decide (err = 0 ∧ d = 4)) rfl rfl
              rw [HN1.out] at hspec
              obtain ⟨p1, p2, p3, p4, p5⟩ := hspec
              have hper2 := p1
              obtain ⟨L2, hL2⟩ : ∃ L2, leftF gone nd wt (decide (err = 0 ∧ d = 3)) (decide (err = 0 ∧ d = 4)) L1 n1 = L2 := ⟨_, rfl⟩
              rw [hL2] at p1 p3
              have hlen2 : L2.length ≤ n1 := by rw [← hL2]; exact leftF_len _ _ _ _ _ _ _
              have HP12 := Lib.hid (And.intro p1 p2)
              have HP3 := Lib.hid p3
              have hth2 : err = 0 → d ≠ 1 → th = true := fun a b => by rw [← HTH.out]; exact decide_eq_true (p5 a b)
              have hmz : ∀ h : gone ≠ [] → err = 0 ∧ (d = 1 ∨ d = 3 ∧ was < wt), m ≠ 0 → err = 0 ∧ (d = 1 ∨ d = 3 ∧ was < wt) := fun h hm0 => h (fun e => hm0 (by rw [← HM.out, e]; rfl))
              have hmz2 := hmz p4
              have hev6 : wc.cell? ⟨eb, 0, none⟩ = some (.int .i64 d) ∧ wc.cell? ⟨eb, 1, none⟩ = some (.int .i64 nd) ∧ wc.cell? ⟨eb, 2, none⟩ = some (.int .i64 key) ∧ wc.cell? ⟨eb, 3, none⟩ = some (.int .i64 wt) := (hs6.out.perm (perm2 rg [evB eb d nd key wt] (rI2 ++ (rH2 ++ F)))).ev
              obtain ⟨f0, f1, f2, f3⟩ := hev6
              have HL2 := Lib.hid hL2
              clear HSPEC hper2 hL2 p1 p2 p3 p4 p5 hmz HTH
              go_upto_region 24 with (fail)
              go_cut [135] (fun x135 wd => wd = wc ∧ x135 = .bool false)
              case first => as_aux_lemma =>
                by_cases he : err = 0
                · subst he
                  by_cases hd : d = 1
                  · subst hd
                    go_wp2_with fail
                    all_goals go_meet
                    all_goals exact ⟨rfl, rfl⟩
                  · have d1 : decide (d = 1) = false := by simp only [decide_eq_false_iff_not]; exact hd
                    have d2 : (d == 1) = false := by simp; exact hd
                    have ht := hth2 rfl hd
                    subst ht
                    by_cases hm0 : m = 0
                    · subst hm0
                      go_wp2_with fail
                      all_goals go_meet
                      all_goals exact ⟨rfl, rfl⟩
                    · obtain ⟨-, h9⟩ := hmz2 hm0
                      have h10 : d = 3 ∧ was < wt := by rcases h9 with h | h; exact absurd h hd; exact h
                      obtain ⟨rfl, h11⟩ := h10
                      have d3 : decide (wt ≤ was) = false := decide_eq_false (by omega)
                      have d4 : decide (0 < m) = true := decide_eq_true (by omega)
                      have d5 : decide (0 < (m : Int)) = true := decide_eq_true (by omega)
                      go_wp2_with fail
                      all_goals go_meet
                      all_goals exact ⟨rfl, rfl⟩
                · have d1 : (err == 0) = false := by simp; exact he
                  have d2 : decide (err = 0) = false := by simp only [decide_eq_false_iff_not]; exact he
                  have hm0 : m = 0 := Classical.byContradiction (fun h => he (hmz2 h).1)
                  subst hm0
                  go_wp2_with fail
                  all_goals go_meet
                  all_goals exact ⟨rfl, rfl⟩
              case rest =>
                obtain ⟨rfl, rfl⟩ := hcut
                clear hth2 hmz2
                obtain ⟨b3, hb3⟩ : ∃ b, decide (err = 0 ∧ d = 3) = b := ⟨_, rfl⟩
                obtain ⟨b4, hb4⟩ : ∃ b, decide (err = 0 ∧ d = 4) = b := ⟨_, rfl⟩
                rw [hb3, hb4] at HL2
                have HB3 := Lib.hid hb3
                have HB4 := Lib.hid hb4
                clear hb3 hb4 f0 f1 f2 f3
                have HCI := Lib.hid (fun (hp : 0 < n1) => row_cell (w0 := w0) (v := .slice AI2 n1 cI2) (l := idsL L1) (by rw [ids_len, HN1.out]; exact hrI2.out) (by rw [ids_len, HN1.out]; exact hp))
                have HCH := Lib.hid (fun (hp : 0 < n1) => row_cell (w0 := w0) (v := .slice AH2 n1 cH2) (l := wtsL L1) (by rw [wts_len, HN1.out]; exact hrH2.out) (by rw [wts_len, HN1.out]; exact hp))
                go_wp2_with fail
                go_loopw [18, 19, 20] (fun x18 x19 x20 wq => ∃ (q : Nat) (rL rW : Sep.Own), q ≤ n1 ∧ x20 = .int .i64 (q : Int) ∧ Hid (Row 3 1 x18 (leftF gone nd wt b3 b4 L1 q).length (ints (idsL (leftF gone nd wt b3 b4 L1 q))) rL) ∧ Hid (Row 3 1 x19 (leftF gone nd wt b3 b4 L1 q).length (ints (wtsL (leftF gone nd wt b3 b4 L1 q))) rW) ∧ Hid (Stands w0 (rL ++ (rW ++ (rg ++ (evB eb d nd key wt :: (rI2 ++ (rH2 ++ F)))))) g (2 * i + 2) P' wq)) (fun _ _ x20 _ => n1 - (intOf x20).toNat)
                case atStart => exact ⟨0, [], [], Nat.zero_le _, rfl, Lib.hid (Row.nil _ _), Lib.hid (Row.nil _ _), hs6⟩
                case round =>
                  obtain ⟨q, rL, rW, hq, rfl, hrL, hrW, hs⟩ := hrel
                  clear hs6
                  by_cases hqn : q < n1
                  · as_aux_lemma =>
                    obtain ⟨bI, cI', hvI, hcI⟩ := HCI.out (by omega)
                    obtain ⟨bH, cH', hvH, hcH⟩ := HCH.out (by omega)
                    injection hvI with z1 z2 z3
                    injection hvH with z4 z5 z6
                    subst z1
                    subst z4
                    clear z2 z3 z5 z6
                    have hfc : ∀ W, Stands w0 (rL ++ (rW ++ (rg ++ (evB eb d nd key wt :: (rI2 ++ (rH2 ++ F)))))) g (2 * i + 2) P' W → (W.cell? ⟨bI, q, none⟩ = some (.int .i64 (atL L1 q).1) ∧ W.cell? ⟨bH, q, none⟩ = some (.int .i64 (atL L1 q).2)) ∧ (W.cell? ⟨eb, 0, none⟩ = some (.int .i64 d) ∧ W.cell? ⟨eb, 1, none⟩ = some (.int .i64 nd) ∧ W.cell? ⟨eb, 2, none⟩ = some (.int .i64 key) ∧ W.cell? ⟨eb, 3, none⟩ = some (.int .i64 wt)) ∧ Reads W (.slice AG gone.length cG) gone := fun W hW => by
                      obtain ⟨T, hT, -⟩ := hW.opened
                      have hE : Owned w0 W (T ++ (rL ++ (rW ++ (rg ++ ([evB eb d nd key wt] ++ (rI2 ++ (rH2 ++ F))))))) := hT
                      have e1 := hcI W _ (hE.perm (permG1 T rL rW rg [evB eb d nd key wt] rI2 rH2 F)) q (by rw [ids_len, HN1.out]; exact hqn)
                      have e2 := hcH W _ (hE.perm (permG2 T rL rW rg [evB eb d nd key wt] rI2 rH2 F)) q (by rw [wts_len, HN1.out]; exact hqn)
                      rw [(ids_at (by rw [HN1.out]; exact hqn)).1] at e1
                      rw [(ids_at (by rw [HN1.out]; exact hqn)).2] at e2
                      exact ⟨⟨e1, e2⟩, ev_of (q := []) (hE.perm (permG3 T rL rW rg [evB eb d nd key wt] rI2 rH2 F)), reads_in HRG.out (hE.perm (permG4 T rL rW rg [evB eb d nd key wt] rI2 rH2 F))⟩
                    have HFC := Lib.hid hfc
                    have hleft : leftF gone nd wt b3 b4 L1 (q + 1) = if keepP gone nd b4 (atL L1 q) = true then leftF gone nd wt b3 b4 L1 q ++ [updP nd wt b3 (atL L1 q)] else leftF gone nd wt b3 b4 L1 q := rfl
                    have HLE := Lib.hid hleft
                    have hll := leftF_len gone nd wt b3 b4 L1 q
                    obtain ⟨⟨pid, pw⟩, hpp⟩ : ∃ x, atL L1 q = x := ⟨_, rfl⟩
                    rw [hpp] at HFC HLE
                    dsimp only at HFC
                    generalize leftF gone nd wt b3 b4 L1 q = Q at *
                    obtain ⟨qn, hqq⟩ : ∃ qn, Q.length = qn := ⟨_, rfl⟩
                    rw [hqq] at hrL hrW hll
                    have HQN := Lib.hid hqq
                    obtain ⟨⟨u1, u2⟩, -, -⟩ := HFC.out _ hs.out
                    have HS := hs
                    clear hfc hcI hcH hleft hpp hqq hs HCI HCH
                    obtain ⟨bU, hbU⟩ : ∃ b, (decide (pid = nd) && b3) = b := ⟨_, rfl⟩
                    obtain ⟨kp, hkp⟩ : ∃ b, keepP gone nd b4 (pid, pw) = b := ⟨_, rfl⟩
                    have hup : updP nd wt b3 (pid, pw) = (pid, if bU = true then wt else pw) := by
                      rw [← hbU]
                      unfold updP
                      by_cases hx : pid = nd ∧ b3 = true
                      · rw [if_pos hx, if_pos (by rw [Bool.and_eq_true, decide_eq_true_iff]; exact hx)]
                      · rw [if_neg hx, if_neg (fun h => hx (by rw [Bool.and_eq_true, decide_eq_true_iff] at h; exact h))]
                    rw [hkp, hup] at HLE
                    have HBU := Lib.hid hbU
                    have HKP := Lib.hid hkp
                    clear hbU hkp hup
                    go_upto_region 32 with (fail)
                    go_cut [161] (fun x161 wd => x161 = .bool bU ∧ Hid (Stands w0 (rL ++ (rW ++ (rg ++ (evB eb d nd key wt :: (rI2 ++ (rH2 ++ F)))))) g (2 * i + 2) P' wd))
                    case first => as_aux_lemma =>
                      obtain ⟨-, ⟨e0, e1, -, -⟩, -⟩ := HFC.out _ HS.out
                      replace u1 := cell_regrown u1
                      replace e0 := cell_regrown e0
                      replace e1 := cell_regrown e1
                      clear u2
                      by_cases hp : pid = nd
                      · have d1 : decide (pid = nd) = true := decide_eq_true hp
                        have d2 : (pid == nd) = true := by simpa using hp
                        by_cases he : err = 0
                        · subst he
                          by_cases hd : d = 3
                          · subst hd
                            have HR := Lib.hid (show true = bU by rw [← HBU.out, d1, ← HB3.out]; rfl)
                            refine wp_region_quiet_below (by kernel_rfl) (by kernel_rfl) ?_
                            repeat (first | go_big_quiet_step ((first | (go_at_call 14; with_reducible exact Calls.regrown_of ((fail))))) | quiet_step ((first | (go_at_call 14; with_reducible exact Calls.regrown_of ((fail))))))
                            refine wpQuiet_nil ?_
                            intro _ hw'
                            obtain ⟨⟨dq, osq⟩, hw''⟩ := hw'
                            subst hw''
                            have HS4 := Lib.hid (HS.out.under (below_regrown _ dq osq))
                            go_wp2_with fail
                            go_meet
                            case rel => exact ⟨by rw [← HR.out], HS4⟩
                          · have d3 : decide (d = 3) = false := decide_eq_false hd
                            have d4 : (d == 3) = false := by simpa using hd
                            have HR := Lib.hid (show false = bU by rw [← HBU.out, d1, ← HB3.out, decide_eq_false (fun h => hd h.2)]; rfl)
                            refine wp_region_quiet_below (by kernel_rfl) (by kernel_rfl) ?_
                            repeat (first | go_big_quiet_step ((first | (go_at_call 14; with_reducible exact Calls.regrown_of ((fail))))) | quiet_step ((first | (go_at_call 14; with_reducible exact Calls.regrown_of ((fail))))))
                            refine wpQuiet_nil ?_
                            intro _ hw'
                            obtain ⟨⟨dq, osq⟩, hw''⟩ := hw'
                            subst hw''
                            have HS4 := Lib.hid (HS.out.under (below_regrown _ dq osq))
                            go_wp2_with fail
                            go_meet
                            case rel => exact ⟨by rw [← HR.out], HS4⟩
                        · have d3 : decide (err = 0) = false := decide_eq_false he
                          have d4 : (err == 0) = false := by simpa using he
                          have HR := Lib.hid (show false = bU by rw [← HBU.out, d1, ← HB3.out, decide_eq_false (fun h => he h.1)]; rfl)
                          refine wp_region_quiet_below (by kernel_rfl) (by kernel_rfl) ?_
                          repeat (first | go_big_quiet_step ((first | (go_at_call 14; with_reducible exact Calls.regrown_of ((fail))))) | quiet_step ((first | (go_at_call 14; with_reducible exact Calls.regrown_of ((fail))))))
                          refine wpQuiet_nil ?_
                          intro _ hw'
                          obtain ⟨⟨dq, osq⟩, hw''⟩ := hw'
                          subst hw''
                          have HS4 := Lib.hid (HS.out.under (below_regrown _ dq osq))
                          go_wp2_with fail
                          go_meet
                          case rel => exact ⟨by rw [← HR.out], HS4⟩
                      · have d1 : decide (pid = nd) = false := decide_eq_false hp
                        have d2 : (pid == nd) = false := by simpa using hp
                        have HR := Lib.hid (show false = bU by rw [← HBU.out, d1]; rfl)
                        refine wp_region_quiet_below (by kernel_rfl) (by kernel_rfl) ?_
                        repeat (first | go_big_quiet_step ((first | (go_at_call 14; with_reducible exact Calls.regrown_of ((fail))))) | quiet_step ((first | (go_at_call 14; with_reducible exact Calls.regrown_of ((fail))))))
                        refine wpQuiet_nil ?_
                        intro _ hw'
                        obtain ⟨⟨dq, osq⟩, hw''⟩ := hw'
                        subst hw''
                        have HS4 := Lib.hid (HS.out.under (below_regrown _ dq osq))
                        go_wp2_with fail
                        go_meet
                        case rel => exact ⟨by rw [← HR.out], HS4⟩
                    case rest =>
                      obtain ⟨rfl, hs2⟩ := hcut
                      clear HS u1 u2
                      obtain ⟨-, ⟨e0, e1, e2, e3⟩, -⟩ := HFC.out _ hs2.out
                      go_upto_if 161 with (fail)
                      go_cut [21] (fun x21 wd => x21 = .int .i64 (if bU = true then wt else pw) ∧ Hid (Stands w0 (rL ++ (rW ++ (rg ++ (evB eb d nd key wt :: (rI2 ++ (rH2 ++ F)))))) g (2 * i + 2) P' wd))
                      case first => as_aux_lemma =>
                        cases bU with
                        | true =>
                          go_wp2_with fail
                          go_meet
                          case rel => exact ⟨rfl, hs2⟩
                        | false =>
                          go_wp2_with fail
                          go_meet
                          case rel => exact ⟨rfl, hs2⟩
                      case rest =>
                        obtain ⟨rfl, hs3⟩ := hcut
                        clear hs2 e0 e1 e2 e3
                        generalize (if bU = true then wt else pw) = uw at *
                        have hcall := fun (W : World) (hW : Stands w0 (rL ++ (rW ++ (rg ++ (evB eb d nd key wt :: (rI2 ++ (rH2 ++ F)))))) g (2 * i + 2) P' W) => has_callsB (.slice AG gone.length cG) gone pid W (HFC.out W hW).2.2
                        rw [HM.out] at hcall
                        have HCALL := Lib.hid hcall
                        clear hcall
                        go_upto_region 34 with (fail)
                        go_cut [188] (fun x188 wd => x188 = .bool kp ∧ Hid (Stands w0 (rL ++ (rW ++ (rg ++ (evB eb d nd key wt :: (rI2 ++ (rH2 ++ F)))))) g (2 * i + 2) P' wd))
                        case first => as_aux_lemma =>
                          obtain ⟨⟨u1, -⟩, ⟨e0, e1, -, -⟩, -⟩ := HFC.out _ hs3.out
                          replace u1 := cell_regrown u1
                          replace e0 := cell_regrown e0
                          replace e1 := cell_regrown e1
                          obtain ⟨ig, hig⟩ : ∃ b, decide (pid ∈ gone) = b := ⟨_, rfl⟩
                          have chas := fun d' os => HCALL.out _ (hs3.out.under (below_regrown _ d' os))
                          rw [hig] at chas
                          have HIG := Lib.hid hig
                          clear hig HCALL
                          cases ig with
                          | true =>
                            have HR := Lib.hid (show false = kp by rw [← HKP.out]; show _ = (!decide (pid ∈ gone) && !(decide (pid = nd) && b4)); rw [HIG.out]; rfl)
                            refine wp_region_quiet_below (by kernel_rfl) (by kernel_rfl) ?_
                            repeat (first | go_big_quiet_step ((first | (go_at_call 11; with_reducible exact Calls.regrown_of (chas _ _)))) | quiet_step ((first | (go_at_call 11; with_reducible exact Calls.regrown_of (chas _ _)))))
                            refine wpQuiet_nil ?_
                            intro _ hw'
                            obtain ⟨⟨dq, osq⟩, hw''⟩ := hw'
                            subst hw''
                            have HS4 := Lib.hid (hs3.out.under (below_regrown _ dq osq))
                            go_wp2_with fail
                            go_meet
                            case rel => exact ⟨by rw [← HR.out], HS4⟩
                          | false =>
                            by_cases hp : pid = nd
                            · subst hp
                              have d1 : decide (pid = pid) = true := decide_eq_true rfl
                              by_cases he : err = 0
                              · subst he
                                by_cases hd : d = 4
                                · subst hd
                                  have HR := Lib.hid (show false = kp by rw [← HKP.out]; show _ = (!decide (pid ∈ gone) && !(decide (pid = pid) && b4)); rw [HIG.out, d1, ← HB4.out]; rfl)
                                  refine wp_region_quiet_below (by kernel_rfl) (by kernel_rfl) ?_
                                  repeat (first | go_big_quiet_step ((first | (go_at_call 11; with_reducible exact Calls.regrown_of (chas _ _)))) | quiet_step ((first | (go_at_call 11; with_reducible exact Calls.regrown_of (chas _ _)))))
                                  refine wpQuiet_nil ?_
                                  intro _ hw'
                                  obtain ⟨⟨dq, osq⟩, hw''⟩ := hw'
                                  subst hw''
                                  have HS4 := Lib.hid (hs3.out.under (below_regrown _ dq osq))
                                  go_wp2_with fail
                                  go_meet
                                  case rel => exact ⟨by rw [← HR.out], HS4⟩
                                · have d3 : decide (d = 4) = false := decide_eq_false hd
                                  have d4 : (d == 4) = false := by simpa using hd
                                  have d5 : (d != 4) = true := by simp [bne, d4]
                                  have HR := Lib.hid (show true = kp by rw [← HKP.out]; show _ = (!decide (pid ∈ gone) && !(decide (pid = pid) && b4)); rw [HIG.out, d1, ← HB4.out, decide_eq_false (fun h => hd h.2)]; rfl)
                                  refine wp_region_quiet_below (by kernel_rfl) (by kernel_rfl) ?_
                                  repeat (first | go_big_quiet_step ((first | (go_at_call 11; with_reducible exact Calls.regrown_of (chas _ _)))) | quiet_step ((first | (go_at_call 11; with_reducible exact Calls.regrown_of (chas _ _)))))
                                  refine wpQuiet_nil ?_
                                  intro _ hw'
                                  obtain ⟨⟨dq, osq⟩, hw''⟩ := hw'
                                  subst hw''
                                  have HS4 := Lib.hid (hs3.out.under (below_regrown _ dq osq))
                                  go_wp2_with fail
                                  go_meet
                                  case rel => exact ⟨by rw [← HR.out], HS4⟩
                              · have d3 : decide (err = 0) = false := decide_eq_false he
                                have d4 : (err == 0) = false := by simpa using he
                                have HR := Lib.hid (show true = kp by rw [← HKP.out]; show _ = (!decide (pid ∈ gone) && !(decide (pid = pid) && b4)); rw [HIG.out, d1, ← HB4.out, decide_eq_false (fun h => he h.1)]; rfl)
                                refine wp_region_quiet_below (by kernel_rfl) (by kernel_rfl) ?_
                                repeat (first | go_big_quiet_step ((first | (go_at_call 11; with_reducible exact Calls.regrown_of (chas _ _)))) | quiet_step ((first | (go_at_call 11; with_reducible exact Calls.regrown_of (chas _ _)))))
                                refine wpQuiet_nil ?_
                                intro _ hw'
                                obtain ⟨⟨dq, osq⟩, hw''⟩ := hw'
                                subst hw''
                                have HS4 := Lib.hid (hs3.out.under (below_regrown _ dq osq))
                                go_wp2_with fail
                                go_meet
                                case rel => exact ⟨by rw [← HR.out], HS4⟩
                            · have d1 : decide (pid = nd) = false := decide_eq_false hp
                              have d2 : (pid == nd) = false := by simpa using hp
                              have HR := Lib.hid (show true = kp by rw [← HKP.out]; show _ = (!decide (pid ∈ gone) && !(decide (pid = nd) && b4)); rw [HIG.out, d1]; rfl)
                              refine wp_region_quiet_below (by kernel_rfl) (by kernel_rfl) ?_
                              repeat (first | go_big_quiet_step ((first | (go_at_call 11; with_reducible exact Calls.regrown_of (chas _ _)))) | quiet_step ((first | (go_at_call 11; with_reducible exact Calls.regrown_of (chas _ _)))))
                              refine wpQuiet_nil ?_
                              intro _ hw'
                              obtain ⟨⟨dq, osq⟩, hw''⟩ := hw'
                              subst hw''
                              have HS4 := Lib.hid (hs3.out.under (below_regrown _ dq osq))
                              go_wp2_with fail
                              go_meet
                              case rel => exact ⟨by rw [← HR.out], HS4⟩
                        case rest =>
                          obtain ⟨rfl, hs4⟩ := hcut
                          clear hs3 HCALL
                          obtain ⟨⟨u1, -⟩, -, -⟩ := HFC.out _ hs4.out
                          cases kp with
                          | false =>
                            go_wp2_with fail
                            go_roundw
                            case rel =>
                              have e1 : leftF gone nd wt b3 b4 L1 (q + 1) = Q := by rw [HLE.out]; rfl
                              refine ⟨q + 1, rL, rW, hqn, by go_num, Lib.hid ?_, Lib.hid ?_, hs4⟩
                              · rw [e1, HQN.out]; exact hrL.out
                              · rw [e1, HQN.out]; exact hrW.out
                            case measure => simp [intOf]; omega
                          | true =>
                            obtain ⟨T, hT, hT2⟩ := hs4.out.opened
                            have hO1 := hT.perm (permG5 T rL rW (rg ++ (evB eb d nd key wt :: (rI2 ++ (rH2 ++ F)))))
                            have HO1 := Lib.hid hO1
                            have HT2 := Lib.hid hT2
                            have hm1 : qn + 1 ≤ maxLen := by unfold maxLen; omega
                            have hm2 : (qn + 1) * 8 ≤ 140737488355328 := by omega
                            clear hT hT2 hO1
                            go_wp2_with (first
                              | (at_builtin; refine append_one rfl (.tmp 189) (.tmp 194) 26 rfl 3 (.int .i64 0) 8 Try.underlying26 info_int8 rfl _ qn _ rL _ _ rfl hrL.out HO1.out rfl rfl hm1 hm2 ?_; intro v6 r6 w6 hr6 hO6; have HR6 := Lib.hid hr6; have HO6 := Lib.hid (hO6.perm (permG6 r6 T rW (rg ++ (evB eb d nd key wt :: (rI2 ++ (rH2 ++ F)))))); clear hr6 hO6 HO1)
                              | (at_builtin; refine append_one rfl (.tmp 196) (.tmp 198) 26 rfl 3 (.int .i64 0) 8 Try.underlying26 info_int8 rfl _ qn _ rW _ _ rfl hrW.out HO6.out rfl rfl hm1 hm2 ?_; intro v7 r7 w7 hr7 hO7; have HR7 := Lib.hid hr7; have HO7 := Lib.hid (hO7.perm (permG7 r7 r6 T (rg ++ (evB eb d nd key wt :: (rI2 ++ (rH2 ++ F)))))); clear hr7 hO7 HO6))
                            go_roundw
                            case rel =>
                              have e1 : leftF gone nd wt b3 b4 L1 (q + 1) = Q ++ [(pid, uw)] := by rw [HLE.out]; rfl
                              have e2 : (Q ++ [(pid, uw)]).length = qn + 1 := by rw [List.length_append, HQN.out]; rfl
                              refine ⟨q + 1, r6, r7, hqn, by go_num, Lib.hid ?_, Lib.hid ?_, Lib.hid (HT2.out _ _ HO7.out)⟩
                              · rw [e1, e2, show idsL (Q ++ [(pid, uw)]) = idsL Q ++ [pid] from List.map_append, ints_snoc]
                                exact HR6.out
                              · rw [e1, e2, show wtsL (Q ++ [(pid, uw)]) = wtsL Q ++ [uw] from List.map_append, ints_snoc]
                                exact HR7.out
                            case measure => simp [intOf]; omega
                  · as_aux_lemma =>
                    obtain rfl : q = n1 := by omega
                    rw [HL2.out] at hrL hrW
                    have h3 := HP3.out
                    rw [HM.out] at h3
                    obtain ⟨hper2, hle2⟩ := HP12.out
                    obtain ⟨hG2, hc2⟩ := HASPEC.out
                    have hlp : L2.length = P'.len := by rw [hper2.length_eq, ← all_len]
                    have hsum2 : sumW L2 = P'.wt := by rw [sumW_perm hper2, ← all_wt]
                    have hpos2 : ∀ p ∈ L2, 0 ≤ p.2 := fun p hp => (hG2.pos p (hper2.mem_iff.1 hp)).2
                    obtain ⟨n2, hn2⟩ : ∃ n2, L2.length = n2 := ⟨_, rfl⟩
                    rw [hn2] at hrL hrW hlen2 hlp h3
                    have HN2 := Lib.hid hn2
                    have HLP := Lib.hid hlp
                    have HSUM := Lib.hid hsum2
                    have HPOS := Lib.hid hpos2
                    have HG2 := Lib.hid hG2
                    have HPER := Lib.hid hper2
                    have HC2 := Lib.hid hc2
                    have HLE2 := Lib.hid hle2
                    obtain ⟨AL, cL, rfl⟩ := hrL.out.slice
                    obtain ⟨AW, cW, rfl⟩ := hrW.out.slice
                    have hsE := hs.out.perm (perm4 rL rW rg [evB eb d nd key wt] (rI2 ++ (rH2 ++ F)))
                    have hs6 : Stands w0 (rL ++ (rW ++ F)) g (2 * i + 2) P' _ := hs.out.sub (List.Sublist.append (List.Sublist.refl rL) (List.Sublist.append (List.Sublist.refl rW) (((((List.sublist_append_right rH2 F).trans (List.sublist_append_right rI2 (rH2 ++ F))).cons (evB eb d nd key wt))).trans (List.sublist_append_right rg (evB eb d nd key wt :: (rI2 ++ (rH2 ++ F)))))))
                    have HS6 := Lib.hid hs6
                    obtain ⟨e0, -, -, -⟩ := hsE.ev
                    clear hs hsE hs6 hn2 hlp hsum2 hpos2 hG2 hper2 hc2 hle2 HP3 HP12 HASPEC HL2 HRG HCI HCH hrI2 hrH2 HL1 HN1
                    go_upto_region 37 with (fail)
                    go_cut [225] (fun x225 wd => x225 = .bool false ∧ Hid (Stands w0 (rL ++ (rW ++ F)) g (2 * i + 2) P' wd))
                    case first => as_aux_lemma =>
                      by_cases hx : n2 + m = q
                      · have d1 : decide ((n2 : Int) + (m : Int) = (q : Int)) = true := decide_eq_true (by omega)
                        have d2 : ((n2 : Int) + (m : Int) == (q : Int)) = true := by simpa using d1
                        have d3 : ((n2 : Int) + (m : Int) != (q : Int)) = false := by simp [bne, d2]
                        clear h3 hx
                        go_wp2_with fail
                        go_meet
                        case rel => exact ⟨rfl, HS6⟩
                      · obtain ⟨rfl, rfl, h5⟩ := h3.resolve_left hx
                        have d1 : decide ((n2 : Int) + (m : Int) = (q : Int)) = false := decide_eq_false (by omega)
                        have d2 : ((n2 : Int) + (m : Int) == (q : Int)) = false := by simpa using d1
                        have d3 : ((n2 : Int) + (m : Int) != (q : Int)) = true := by simp [bne, d2]
                        have d4 : decide ((n2 : Int) + 1 = (q : Int)) = true := decide_eq_true (by omega)
                        have d5 : ((n2 : Int) + 1 == (q : Int)) = true := by simpa using d4
                        clear h3 hx h5
                        go_wp2_with fail
                        go_meet
                        case rel => exact ⟨rfl, HS6⟩
                    case rest =>
                      obtain ⟨rfl, hs6b⟩ := hcut
                      clear h3 e0 HS6
                      go_wp2_with fail
                      go_loopw [22, 24] (fun x22 x24 wr2 => ∃ k3 : Nat, k3 ≤ 3 ∧ x24 = .int .i64 (k3 : Int) ∧ x22 = .int .i64 (rowsN_ P' k3 : Int) ∧ Hid (Stands w0 (rL ++ (rW ++ F)) g (2 * i + 2) P' wr2)) (fun _ x24 _ => 3 - (intOf x24).toNat)
                      case atStart => exact ⟨0, by omega, rfl, rfl, hs6b⟩
                      case round =>
                        obtain ⟨k3, hk3, rfl, rfl, hs7⟩ := hrel
                        clear hs6b
                        by_cases hk4 : k3 < 3
                        · as_aux_lemma =>
                          have q8 := y_row hs7.out (by omega) (k3 : Int)
                          have hsub := rows_sub P' k3 hk4
                          have hmo := rows_mono P' (k3 + 1) (by omega)
                          have hmo0 := rows_mono P' k3 (by omega)
                          rw [← HLP.out] at hmo hmo0
                          have hrn : rowsN_ P' (k3 + 1) = rowsN_ P' k3 + (P'.row (k3 : Int)).length := rfl
                          have HRN := Lib.hid hrn
                          rw [hrn] at hmo
                          obtain ⟨lr, hlr⟩ : ∃ lr, P'.row (k3 : Int) = lr := ⟨_, rfl⟩
                          rw [hlr] at q8 hsub hmo HRN
                          obtain ⟨nr, hnr⟩ : ∃ nr, lr.length = nr := ⟨_, rfl⟩
                          rw [hnr] at hmo HRN
                          generalize rowsN_ P' k3 = r3 at *
                          have HNR := Lib.hid hnr
                          have HSUB := Lib.hid (show ∀ x ∈ lr, x ∈ idsL L2 from fun x hx => (HPER.out.map _).mem_iff.2 (hsub x hx))
                          have d0 : decide ((k3 : Int) < 3) = true := decide_eq_true (by omega)
                          have d1 : decide (k3 < 3) = true := decide_eq_true hk4
                          clear hs7 hlr hsub hrn hnr
                          go_wp2_with fail
                          go_at_call 13
                          refine (q8).mono ?_
                          rintro e w8 ⟨v8, r8, rfl, hr8, hs8⟩
                          rw [HNR.out] at hr8
                          obtain ⟨A8, c8, rfl⟩ := hr8.slice
                          have HR8 := Lib.hid hr8
                          have HS8 := Lib.hid hs8
                          clear q8 hr8 hs8
                          go_wp2_with fail
                          go_loopw [26] (fun x26 wr3 => ∃ j : Nat, j ≤ nr ∧ x26 = .int .i64 (j : Int) ∧ Hid (Stands w0 (r8 ++ (rL ++ (rW ++ F))) g (2 * i + 2) P' wr3)) (fun x26 _ => nr - (intOf x26).toNat)
                          case atStart => exact ⟨0, Nat.zero_le _, rfl, HS8⟩
                          case round =>
                            obtain ⟨j, hj, rfl, hs9⟩ := hrel
                            clear HS8
                            by_cases hjn : j < nr
                            · as_aux_lemma =>
                              obtain ⟨b8, c8', hv8, hc8⟩ := row_cell (w0 := w0) (v := .slice A8 nr c8) (l := lr) (by rw [HNR.out]; exact HR8.out) (by rw [HNR.out]; omega)
                              injection hv8 with z1 z2 z3
                              subst z1
                              clear z2 z3
                              obtain ⟨T, hT, -⟩ := hs9.out.opened
                              have u1 := hc8 _ _ (hT.perm (perm2 T r8 (rL ++ (rW ++ F)))) j (by rw [HNR.out]; exact hjn)
                              have hrd := reads_in (by rw [ids_len, HN2.out]; exact hrL.out) (hT.perm (perm3 T r8 rL (rW ++ F)))
                              have hmem : decide (lr.getD j 0 ∈ idsL L2) = true := decide_eq_true (HSUB.out _ (by
                                rw [List.getD_eq_getElem?_getD, List.getElem?_eq_getElem (by rw [HNR.out]; exact hjn)]
                                exact List.getElem_mem _))
                              have hh := has_calls _ (idsL L2) (lr.getD j 0) _ hrd
                              rw [hmem] at hh
                              generalize lr.getD j 0 = xj at *
                              have d2 : decide ((j : Int) < (nr : Int)) = true := decide_eq_true (by omega)
                              clear hT hrd hmem hc8
                              go_wp2_with fail
                              go_at_call 11
                              refine (hh).mono ?_
                              rintro e w9 ⟨rfl, rfl⟩
                              clear hh u1
                              go_wp2_with fail
                              go_roundw
                              case rel => exact ⟨j + 1, hjn, by go_num, hs9⟩
                              case measure => simp [intOf]; omega
                            · obtain rfl : j = nr := by omega
                              have HS10 := Lib.hid (hs9.out.sub (List.sublist_append_right r8 (rL ++ (rW ++ F))))
                              clear hs9 HSUB HNR HR8
                              go_wp2_with fail
                              go_roundw
                              case rel => exact ⟨k3 + 1, hk4, by go_num, by rw [HRN.out]; go_num, HS10⟩
                              case measure => simp [intOf]; omega
                        · obtain rfl : k3 = 3 := by omega
                          rw [rows_len, ← HLP.out]
                          clear hk3 hk4
                          go_wp2_with fail
                          go_loopw [23, 27] (fun x23 x27 wr4 => ∃ j : Nat, j ≤ n2 ∧ x27 = .int .i64 (j : Int) ∧ x23 = .int .i64 (psum L2 j) ∧ Hid (Stands w0 (rL ++ (rW ++ F)) g (2 * i + 2) P' wr4)) (fun _ x27 _ => n2 - (intOf x27).toNat)
                          case atStart => exact ⟨0, Nat.zero_le _, rfl, rfl, hs7⟩
                          case round =>
                            obtain ⟨j, hj, rfl, rfl, hs8⟩ := hrel
                            clear hs7
                            by_cases hjn : j < n2
                            · as_aux_lemma =>
                              obtain ⟨b8, c8', hv8, hc8⟩ := row_cell (w0 := w0) (v := .slice AW n2 cW) (l := wtsL L2) (by rw [wts_len, HN2.out]; exact hrW.out) (by rw [wts_len, HN2.out]; omega)
                              injection hv8 with z1 z2 z3
                              subst z1
                              clear z2 z3
                              obtain ⟨T, hT, -⟩ := hs8.out.opened
                              have u1 := hc8 _ _ (hT.perm (perm3 T rL rW F)) j (by rw [wts_len, HN2.out]; exact hjn)
                              rw [(ids_at (by rw [HN2.out]; exact hjn)).2] at u1
                              have hb0 := psum_in HPOS.out j (by rw [HN2.out]; omega)
                              have hb1 := psum_in HPOS.out (j + 1) (by rw [HN2.out]; omega)
                              have hle3 := HLE2.out
                              have hps : psum L2 (j + 1) = psum L2 j + (atL L2 j).2 := rfl
                              have HPS := Lib.hid hps
                              have hcc := HC2.out
                              rw [hps, HSUM.out] at hb1
                              rw [HSUM.out] at hb0
                              generalize psum L2 j = s0 at *
                              generalize (atL L2 j).2 = s1 at *
                              have d2 : decide ((j : Int) < (n2 : Int)) = true := decide_eq_true (by omega)
                              have hb2 : 0 ≤ s0 ∧ s0 ≤ 1024 := by omega
                              have hb3 : 0 ≤ s0 + s1 ∧ s0 + s1 ≤ 1024 := by omega
                              clear hT hc8 hps hb0 hb1 hle3 hcc
                              go_wp2_with fail
                              go_roundw
                              case rel => exact ⟨j + 1, hjn, by go_num, by rw [HPS.out], hs8⟩
                              case measure => simp [intOf]; omega
                            · obtain rfl : j = n2 := by omega
                              have q9 := y_weight hs8.out (by omega)
                              have e9 : psum L2 j = P'.wt := by rw [← HN2.out, psum_all, HSUM.out]
                              rw [e9]
                              have HS8 := hs8
                              have hle3 := HLE2.out
                              have hcc := HC2.out
                              rw [hcc] at hle3
                              clear hs8 e9 hcc
                              have HLE3 := Lib.hid hle3
                              have d3 : decide (cap < P'.wt) = false := decide_eq_false (by omega)
                              obtain ⟨pw9, hpw9⟩ : ∃ x, P'.wt = x := ⟨_, rfl⟩
                              rw [hpw9] at q9 d3 ⊢
                              clear hle3 hpw9
                              go_wp2_with fail
                              go_at_call 14
                              refine (q9).mono ?_
                              rintro e w9 ⟨rfl, hb9⟩
                              have HS9 := Lib.hid (HS8.out.under hb9)
                              clear q9 hb9 HS8
                              go_wp2_with fail
                              go_roundw
                              case rel => exact ⟨i + 1, hlt, by go_num, Lib.hid ⟨P', L2, rL, rW, by rw [ids_len, HN2.out]; exact hrL.out, by rw [wts_len, HN2.out]; exact hrW.out, HPER.out, HG2.out, HC2.out, HLE2.out, by rw [HN2.out]; omega, (show 2 * (i + 1) = 2 * i + 2 by omega) ▸ HS9.out⟩⟩
                              case measure => simp [intOf]; omega
    · obtain rfl : i = len := by omega
      have hbl := hs.below
      clear hs hrI hrH hper hG
      go_wp2_with fail
      go_ret
      exact ⟨rfl, hbl⟩
end
end Go.Proofs.Ytnhdjpeadhcajaa
