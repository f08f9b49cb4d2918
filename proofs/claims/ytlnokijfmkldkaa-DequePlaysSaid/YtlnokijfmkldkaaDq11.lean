/- The statements of layer 7: DequeQueue, the walk. -/
import Derived.Test.YtlnokijfmkldkaaDq10
import Derived.Test.YtlnokijfmkldkaaInts
import Derived.Deep.RegionHeld3
namespace Go.Proofs.Ytlnokijfmkldkaa
open Go.RowKit Go.Sep DqPure
section
variable {F : Own} {w0 w : World}
theorem DqAt.congr {bx m n : Nat} {st st' : Nat → List (Int × Int)} {r : Own} (h : DqAt bx m n st r) (e : ∀ k, k < m → st' k = st k) : DqAt bx m n st' r := by
  obtain ⟨v, bm, q, L, S, nx, pv, li, id, wt, LW, LN, f, o, hI, hst⟩ := h
  exact ⟨v, bm, q, L, S, nx, pv, li, id, wt, LW, LN, f, o, hI, fun k hk => (e k hk).trans (hst k hk)⟩
theorem info_i7 : (Try.prog.info? 3).map (fun i => (i.zero, i.size, i.bytes)) = some (some (.int .i64 0), 1, 8) := by kernel_rfl
theorem ints_snoc (l : List Int) (x : Int) : ints (l ++ [x]) = ints l ++ [.int .i64 x] := by unfold ints; simp
def one (IN : List Int) : Nat → List (Int × Int) := fun _ => IN.map (fun x => (x, 1))
def Q2Rel (w0 : World) (X : Own) (bx j n : Nat) (IN : List Int) (w : World) : Prop :=
  ∃ r, DqAt bx 1 n (one (IN.drop j)) r ∧ Owned w0 w (r ++ X)
theorem head_one (IN : List Int) {j : Nat} (h : j < IN.length) : headI (one (IN.drop j) 0) = IN.getD j 0 ∧ (one (IN.drop j) 0) = [] ++ (IN.getD j 0, 1) :: one (IN.drop (j + 1)) 0 := by
  have e : IN.drop j = IN[j] :: IN.drop (j + 1) := List.drop_eq_getElem_cons h
  have e2 : IN.getD j 0 = IN[j] := by simp [List.getD, h]
  rw [e2]
  unfold one
  rw [e]
  exact ⟨rfl, rfl⟩
theorem last2_one : ∀ (l : List Int) (x : Int), (lastI.lst2 (x, 1) (l.map (fun x => (x, 1)))).1 = (x :: l).getLast (by simp)
  | [], x => rfl
  | y :: l, x => by
    show (lastI.lst2 (y, 1) (l.map (fun x => (x, 1)))).1 = _
    rw [last2_one l y]
    rfl
theorem last_one (IN : List Int) {j : Nat} (h : j < IN.length) : lastI (one (IN.drop j) 0) = IN.getD (IN.length - 1) 0 := by
  have e : IN.drop j = IN[j] :: IN.drop (j + 1) := List.drop_eq_getElem_cons h
  unfold one
  rw [e]
  show (lastI.lst2 (IN[j], 1) ((IN.drop (j + 1)).map (fun x => (x, 1)))).1 = _
  rw [last2_one]
  have e3 : (IN[j] :: IN.drop (j + 1)).getLast (List.cons_ne_nil _ _) = (IN.drop j).getLast (by rw [e]; exact List.cons_ne_nil _ _) := by congr 1; exact e.symm
  rw [e3, List.getLast_drop]
  rw [List.getLast_eq_getElem]
  have : IN.length - 1 < IN.length := by omega
  simp [List.getD, this]
theorem len_one (IN : List Int) (j : Nat) : (one (IN.drop j) 0).length = IN.length - j := by unfold one; simp
def QRel (w0 : World) (F : Own) (bx k : Nat) (v : Value) (w : World) : Prop :=
  ∃ (IN : List Int) (q r : Own) (n : Nat), Row 3 1 v IN.length (ints IN) q ∧ DqAt bx 1 n (one IN) r ∧ Owned w0 w (q ++ (r ++ F)) ∧ IN.length ≤ k ∧ n ≤ k
theorem dq_small (w : World) : Calls Try.prog 8 #[] w fun e w' => e = .returned (.bool true) ∧ Below w.heap.size w w' :=
  (dq_small0 (Owned.nil w)).mono (by rintro e w' ⟨rfl, h⟩; exact ⟨rfl, h.below⟩)
set_option maxHeartbeats 800000 in
theorem queue_out (v : Value) (l : List Int) (w0 : World) (hv : Reads w0 v l) (h1 : 100 < l.length) : Calls Try.prog 3 #[v] w0 fun e w' => e = .returned (.bool true) ∧ Below w0.heap.size w0 w' := by
  obtain ⟨hl, A, c, rfl, _⟩ := hv
  go_enter Try.func3, Try.ntmps3
  go_wp2_with fail
  go_at_call 8
  refine (dq_small w0).mono ?_
  rintro e w1 ⟨rfl, hb1⟩
  go_wp2_with fail
  go_at_call 9
  refine (dq_new 1 ((Owned.nil w0).under hb1)).mono ?_
  rintro e w2 ⟨g, r, rfl, hr, hO2⟩
  go_wp2_with fail
  go_ret
  exact ⟨rfl, hO2.below⟩
set_option maxHeartbeats 6400000 in
set_option maxRecDepth 100000 in
theorem queue_walk (v : Value) (l : List Int) (w0 : World) (hv : Reads w0 v l) (hshort : l.length ≤ 100) : Calls Try.prog 3 #[v] w0 fun e w' => e = .returned (.bool true) ∧ Below w0.heap.size w0 w' := by
  obtain ⟨hl, A, c, rfl, hc⟩ := hv
  generalize hN : l.length = N at *
  clear hN
  have HC := Lib.hid hc
  clear hc
  have hd := fun (w : World) (F : Own) (h : Owned w0 w F) => dq_new 1 h
  rw [show rowsN 1 = 1 from rfl] at hd
  go_enter Try.func3, Try.ntmps3
  go_wp2_with fail
  go_at_call 8
  refine (dq_small w0).mono ?_
  rintro e w1 ⟨rfl, hb1⟩
  go_wp2_with fail
  go_at_call 9
  refine (hd _ _ ((Owned.nil w0).under hb1)).mono ?_
  rintro e w2 ⟨g, r, rfl, hr, hO2⟩
  obtain ⟨F, hO2⟩ : ∃ F, Owned w0 w2 (r ++ F) := ⟨[], hO2⟩
  have HO2 := Lib.hid (show QRel w0 F g 0 (.slice none 0 0) w2 from ⟨[], [], r, 0, Row.nil _ _, hr, hO2, Nat.le_refl _, Nat.le_refl _⟩)
  clear hr hO2 hd
  go_wp2_with fail
  go_loopw [5, 6] (fun x5 x6 wr => ∃ k : Nat, k ≤ N ∧ x6 = .int .i64 k ∧ Hid (QRel w0 F g k x5 wr)) (fun _ x6 _ => N - (intOf x6).toNat)
  case atStart => exact ⟨0, Nat.zero_le _, rfl, HO2⟩
  case round =>
    clear HO2
    obtain ⟨k, hk, rfl, hrel⟩ := hrel
    obtain ⟨IN, q, r, n, hrow, hr, hO, hle, hn⟩ := hrel.out
    clear hrel
    obtain ⟨Ai, ci, rfl⟩ := hrow.slice
    by_cases hlt : k < N
    · obtain ⟨b, off, rfl, hcell⟩ := HC.out (by omega)
      have HX := Lib.hid (show ∀ W (l' : Own), Owned w0 W l' → W.cell? ⟨b, off + k, none⟩ = some (.int .i64 (l.getD k 0)) from fun W l' h => (h.below.cell (p := ⟨b, off + k, none⟩) (World.block_lt_of_cell? _ _ (hcell k hlt))).trans (hcell k hlt))
      have cx : wr.cell? ⟨b, off + k, none⟩ = some (.int .i64 (l.getD k 0)) := (hO.below.cell (p := ⟨b, off + k, none⟩) (World.block_lt_of_cell? _ _ (hcell k hlt))).trans (hcell k hlt)
      clear hcell HC
      generalize l.getD k 0 = x at *
      by_cases hx : 1 ≤ x ∧ x ≤ 65536
      · by_cases hm : x ∈ IN
        · obtain ⟨us, ts, hs⟩ := List.append_of_mem hm
          have CP := Lib.hid (dq_push_dup (k := 0) (j := 0) (i := x) (x := 1) (z := 1) (xs := us.map (fun x => (x, 1))) (ys := ts.map (fun x => (x, 1))) hr (by omega) ⟨hx.1, hx.2, by omega, by omega⟩ (by omega) (by unfold one; rw [hs]; simp) (Owned.comm (a := q) hO))
          have HR := Lib.hid (And.intro hrow (And.intro hr (And.intro hO (And.intro hle hn))))
          clear hrow hr hO hle hn hm hs hx
          go_wp2_with fail
          go_at_call 10
          refine (CP.out).mono ?_
          rintro e w3 ⟨rfl, hb3⟩
          have HN := Lib.hid (show QRel w0 F g (k + 1) (.slice Ai IN.length ci) w3 from ⟨IN, q, r, n, HR.out.1, HR.out.2.1, HR.out.2.2.1.under hb3, by have := HR.out.2.2.2; omega, by have := HR.out.2.2.2; omega⟩)
          clear hb3 CP HR
          go_wp2_with fail
          go_roundw
          case rel => exact ⟨k + 1, by omega, by go_num, HN⟩
          case measure => simp [intOf]; omega
        · have ha : Absent 1 (one IN) x := fun j _ p hp e => by
            obtain ⟨y, hy, rfl⟩ := List.mem_map.1 hp
            exact hm (e ▸ hy)
          have CP := Lib.hid (dq_push_new (k := 0) (i := x) (x := 1) (by omega) hr (by omega) ⟨hx.1, hx.2, by omega, by omega⟩ ha (Owned.comm (a := q) hO))
          have HROW := Lib.hid hrow
          have hm1 : IN.length + 1 ≤ maxLen := by unfold maxLen; omega
          have hm2 : (IN.length + 1) * 8 ≤ 140737488355328 := by omega
          clear hrow hr hO hm ha hx
          go_wp2_with fail
          go_at_call 10
          refine (CP.out).mono ?_
          rintro e w3 ⟨rfl, r3, hr3, hO3⟩
          have cx3 := HX.out _ _ hO3
          have hO4 := hO3.comm
          have hrow := HROW.out
          go_wp2_with (at_builtin; refine append_one rfl (.tmp 35) (.tmp 40) 22 rfl 3 (.int .i64 0) 8 Try.underlying22 info_i7 rfl _ IN.length _ q _ _ rfl hrow hO4 rfl rfl hm1 hm2 ?_)
          intro v2 q2 w5 hrow2 hO5
          obtain ⟨A2, c2, rfl⟩ := hrow2.slice
          have HN := Lib.hid (show QRel w0 F g (k + 1) (.slice A2 (IN.length + 1) c2) w5 from ⟨IN ++ [x], q2, r3, n + 1, by rw [List.length_append, List.length_singleton, ints_snoc]; exact hrow2,
            hr3.congr (fun j hj => by obtain rfl : j = 0 := by omega
                                      unfold one; rw [updS_same]; simp), hO5, by rw [List.length_append, List.length_singleton]; omega, by omega⟩)
          clear hrow hrow2 hO3 hO4 hO5 hr3 CP HROW HX cx3
          go_wp2_with fail
          go_roundw
          case rel => exact ⟨k + 1, by omega, by go_num, HN⟩
          case measure => simp [intOf]; omega
      · have CP := Lib.hid (dq_push_bad (k := 0) (i := x) (x := 1) hr (fun h => hx ⟨h.2.1, h.2.2.1⟩) (Owned.comm (a := q) hO))
        have HR := Lib.hid (And.intro hrow (And.intro hr (And.intro hO (And.intro hle hn))))
        clear hrow hr hO hle hn hx
        go_wp2_with fail
        go_at_call 10
        refine (CP.out).mono ?_
        rintro e w3 ⟨rfl, hb3⟩
        have HN := Lib.hid (show QRel w0 F g (k + 1) (.slice Ai IN.length ci) w3 from ⟨IN, q, r, n, HR.out.1, HR.out.2.1, HR.out.2.2.1.under hb3, by have := HR.out.2.2.2; omega, by have := HR.out.2.2.2; omega⟩)
        clear hb3 CP HR
        go_wp2_with fail
        go_roundw
        case rel => exact ⟨k + 1, by omega, by go_num, HN⟩
        case measure => simp [intOf]; omega
    · obtain rfl : k = N := by omega
      clear HC hlt
      have hro : ∀ W (X : Own), Owned w0 W (q ++ X) → Reads W (.slice Ai IN.length ci) IN := fun W X h => reads_of_row hrow (by omega) h
      have HRO := Lib.hid hro
      have HO := Lib.hid (show Q2Rel w0 (q ++ F) g 0 n IN wr from ⟨r, hr, Owned.comm (a := q) hO⟩)
      clear hrow hr hO hro
      obtain ⟨M, hM⟩ : ∃ M, IN.length = M := ⟨_, rfl⟩
      have HM := Lib.hid hM
      rw [hM] at hle ⊢
      simp only [hM] at HRO
      clear hM
      go_wp2_with fail
      go_loopw [7] (fun x7 wr => ∃ j : Nat, j ≤ M ∧ x7 = .int .i64 j ∧ Hid (Q2Rel w0 (q ++ F) g j n IN wr)) (fun x7 _ => M - (intOf x7).toNat)
      case atStart => exact ⟨0, Nat.zero_le _, rfl, HO⟩
      case round =>
        clear HO
        obtain ⟨j, hj, rfl, hrel⟩ := hrel
        obtain ⟨r, hr, hO⟩ := hrel.out
        clear hrel
        by_cases hlt : j < M
        · have hjM : j < IN.length := by rw [HM.out]; exact hlt
          obtain ⟨hh1, hh2⟩ := head_one IN hjM
          have hh3 := last_one IN hjM
          have hh4 : ((one (IN.drop j) 0).length : Int) = (M : Int) - (j : Int) := by rw [len_one, HM.out]; omega
          rw [HM.out] at hh3
          obtain ⟨-, A2, c2, hA2, hcl⟩ := HRO.out _ _ hO.comm
          have hM2 := HM.out
          obtain ⟨b, o, rfl, -⟩ := hcl (by omega)
          have hcell : ∀ W (r' : Own), Owned w0 W (r' ++ (q ++ F)) → W.cell? ⟨b, o + j, none⟩ = some (.int .i64 (IN.getD j 0)) ∧ W.cell? ⟨b, o + (M - 1), none⟩ = some (.int .i64 (IN.getD (M - 1) 0))   := fun W r' hW => by
            obtain ⟨-, A3, c3, hA3, hc3⟩ := HRO.out _ _ hW.comm
            obtain ⟨b3, o3, rfl, hc⟩ := hc3 (by omega)
            rw [hA2] at hA3
            injection hA3 with e1 e2 e3
            injection e1 with e1
            injection e1 with e4 e5
            subst e4 e5
            exact ⟨hc _ (by omega), hc _ (by omega)⟩
          injection hA2 with e1 e2 e3
          subst e1
          generalize IN.getD j 0 = y at *
          generalize IN.getD (M - 1) 0 = z at *
          have CF := Lib.hid (fun (W : World) (h : Owned w0 W (r ++ (q ++ F))) => (by have h9 := dq_front_some (k := 0) hr (by omega) h; rw [hh1] at h9; exact h9 : Calls Try.prog 11 #[.pointer (some ⟨g, 0, none⟩), .int .i64 0] W fun e w' => e = .returned (.int .i64 y) ∧ Below W.heap.size W w'))
          have CB := Lib.hid (fun (W : World) (h : Owned w0 W (r ++ (q ++ F))) => (by have h9 := dq_back_some (k := 0) hr (by omega) h; rw [hh3] at h9; exact h9 : Calls Try.prog 12 #[.pointer (some ⟨g, 0, none⟩), .int .i64 0] W fun e w' => e = .returned (.int .i64 z) ∧ Below W.heap.size W w'))
          have CL := Lib.hid (fun (W : World) (h : Owned w0 W (r ++ (q ++ F))) => (by have h9 := dq_len_some (k := 0) hr (by omega) h; rw [hh4] at h9; exact h9 : Calls Try.prog 13 #[.pointer (some ⟨g, 0, none⟩), .int .i64 0] W fun e w' => e = .returned (.int .i64 ((M : Int) - (j : Int))) ∧ Below W.heap.size W w'))
          have CU := Lib.hid (fun (W : World) (h : Owned w0 W (r ++ (q ++ F))) => dq_unlink_some (k := 0) (x := y) (z := 1) (xs := []) (by omega) hr (by omega) hh2 h)
          have HCELL := Lib.hid hcell
          have t0 := hcell _ _ hO.drew
          have HO := Lib.hid hO.drew
          obtain ⟨p, rfl⟩ : ∃ p, M = p + 1 := ⟨M - 1, by omega⟩
          rw [Nat.add_sub_cancel] at t0
          have d1 : decide ((p : Int) < (p : Int) + 1) = true := by simp; omega
          have s1 : ((p + 1 : Nat) : Int) - 1 = (p : Int) := by omega
          have s2 : IntKind.i64.wrap (((p + 1 : Nat) : Int) - 1) = (p : Int) := by rw [IntKind.wrap_i64]; omega
          have s3 : IntKind.i64.wrap ((p : Int) + 1 - 1) = (p : Int) := by rw [IntKind.wrap_i64]; omega
          have s4 : IntKind.i64.wrap (((p + 1 : Nat) : Int) - (j : Int)) = ((p + 1 : Nat) : Int) - (j : Int) := by rw [IntKind.wrap_i64]; omega
          have s5 : (p : Int) + 1 - 1 = (p : Int) := by omega
          have s6 : IntKind.i64.wrap (p : Int) = (p : Int) := by rw [IntKind.wrap_i64]; omega
          have s7 : IntKind.i64.wrap ((p : Int) + 1 - (j : Int)) = (p : Int) + 1 - (j : Int) := by rw [IntKind.wrap_i64]; omega
          have s8 : decide ((p : Int) < 0) = false := by simp
          have s9 : decide (0 ≤ (p : Int)) = true := by simp
          clear hh1 hh2 hh3 hh4 hcl hcell hr hO hM2 e2 e3 hjM
          have u0 : (0 : Int) ≤ (p : Int) := by omega
          have u1 : (p : Int) < (p : Int) + 1 := by omega
          have b1 : (p : Int) ≤ 1000 := by omega
          have b2 : (j : Int) ≤ 1000 := by omega
          have b3 : (p : Int) + 1 ≤ 1001 := by omega
          go_wp2_with fail
          go_region_held3 (fun w' => w'.cell? ⟨b, o + j, none⟩ = some (.int .i64 y) ∧ w'.cell? ⟨b, o + p, none⟩ = some (.int .i64 z)) (first | exact t0 | exact t4 | exact t5 | exact t6 | exact t7)
            (first | (go_at_call 11; (with_reducible refine (CF.out _ HO.out).mono ?_); rintro e w4 ⟨rfl, hb4⟩; have HO4 := Lib.hid (HO.out.under hb4); have t4 := HCELL.out _ _ HO4.out; rw [Nat.add_sub_cancel] at t4; clear hb4) | (go_at_call 12; (with_reducible refine (CB.out _ HO4.out).mono ?_); rintro e w5 ⟨rfl, hb5⟩; have HO5 := Lib.hid (HO4.out.under hb5); have t5 := HCELL.out _ _ HO5.out; rw [Nat.add_sub_cancel] at t5; clear hb5) | (go_at_call 13; (with_reducible refine (CL.out _ HO5.out).mono ?_); rintro e w6 ⟨rfl, hb6⟩; have HO6 := Lib.hid (HO5.out.under hb6); have t6 := HCELL.out _ _ HO6.out; rw [Nat.add_sub_cancel] at t6; clear hb6) | (go_at_call 14; (with_reducible refine (CU.out _ HO6.out).mono ?_); rintro e w7 ⟨rfl, r7, hr7, hO7⟩; have HO7 := Lib.hid hO7; have t7 := HCELL.out _ _ HO7.out; rw [Nat.add_sub_cancel] at t7; clear hO7))
          all_goals
            have HN := Lib.hid (show Q2Rel w0 (q ++ F) g (j + 1) n IN w7 from ⟨r7, hr7.congr (fun i hi => by
              obtain rfl : i = 0 := by omega
              rw [updS_same]
              rfl), HO7.out⟩)
            clear hr7 HO7 CF CB CL CU HCELL
            go_wp2_with fail
            go_roundw
            case rel => exact ⟨j + 1, by omega, by go_num, HN⟩
            case measure => simp [intOf]; omega
        · obtain rfl : j = M := by omega
          have hst : ∀ k, k < 1 → one (IN.drop j) k = [] := fun k _ => by unfold one; rw [List.drop_eq_nil_of_le (by rw [HM.out]; omega)]; rfl
          have hr0 : DqAt g 1 n (fun _ => []) r := hr.congr (fun k hk => (hst k hk).symm)
          have HO := Lib.hid hO
          clear hO hr hst hlt
          have P1 := dq_front_some (k := 0) hr0 (by omega) HO.out
          go_wp2_with fail
          go_at_call 11
          refine (P1).mono ?_
          rintro e w7 ⟨rfl, hB6⟩
          have HO6 := Lib.hid (HO.out.under hB6)
          rw [show headI ([] : List (Int × Int)) = 0 from rfl]
          clear P1 HO hB6
          have P2 := dq_back_some (k := 0) hr0 (by omega) HO6.out
          go_wp2_with fail
          go_at_call 12
          refine (P2).mono ?_
          rintro e w8 ⟨rfl, hB7⟩
          have HO7 := Lib.hid (HO6.out.under hB7)
          rw [show lastI ([] : List (Int × Int)) = 0 from rfl]
          clear P2 HO6 hB7
          have P3 := dq_weight_some (k := 0) hr0 (by omega) HO7.out
          go_wp2_with fail
          go_at_call 15
          refine (P3).mono ?_
          rintro e w9 ⟨rfl, hB8⟩
          have HO8 := Lib.hid (HO7.out.under hB8)
          rw [show sumW ([] : List (Int × Int)) = 0 from rfl]
          clear P3 HO7 hB8
          go_wp2_with fail
          go_ret
          exact ⟨rfl, HO8.out.below⟩
end
end Go.Proofs.Ytlnokijfmkldkaa
