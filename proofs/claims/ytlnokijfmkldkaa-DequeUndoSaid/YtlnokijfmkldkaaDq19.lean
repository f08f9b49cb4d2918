/- The statements of layer 7: DequeUndo, the walk. -/
import Derived.Test.YtlnokijfmkldkaaDq16
import Derived.Test.YtlnokijfmkldkaaDq17
import Derived.Deep.CutBlock
import Derived.Deep.DeepCutAuto
import Derived.Deep.RegionHeld3
namespace Go.Proofs.Ytlnokijfmkldkaa
open Go.RowKit Go.Sep DqPure Go.Lib
def UnRel (w0 : World) (F : Sep.Own) (bx k : Nat) (w : World) : Prop := ∃ st n r, DqAt bx 2 n st r ∧ Owned w0 w (r ++ F) ∧ n ≤ k
/-- a state that is known, over some more memory -/
def AtRel (w0 : World) (X : Sep.Own) (bx : Nat) (st : Sts) (w : World) : Prop := ∃ n r, DqAt bx 2 n st r ∧ Owned w0 w (r ++ X) ∧ n ≤ 101
def rotS (st : Sts) (i : Nat) : Sts := updS st 0 ((st 0).drop i ++ (st 0).take i)
theorem rot_zero (st : Sts) : ∀ k, rotS st 0 k = st k := by
  intro k
  unfold rotS updS
  split
  · next h => rw [h]; simp
  · rfl
theorem rot_all (st : Sts) {i : Nat} (h : (st 0).length = i) : ∀ k, rotS st i k = st k := by
  intro k
  unfold rotS updS
  split
  · next h2 => rw [h2, List.drop_eq_nil_of_le (by omega), List.take_of_length_le (by omega)]; rfl
  · rfl
theorem rot_split (st : Sts) {i : Nat} (h : i < (st 0).length) : rotS st i 0 = [] ++ (((st 0).map (·.1)).getD i 0, ((st 0).map (·.2)).getD i 0) :: ((st 0).drop (i + 1) ++ (st 0).take i) := by
  have e : (st 0).drop i = (st 0)[i] :: (st 0).drop (i + 1) := List.drop_eq_getElem_cons h
  have e1 : ((st 0).map (·.1)).getD i 0 = (st 0)[i].1 := by simp [List.getD, h]
  have e2 : ((st 0).map (·.2)).getD i 0 = (st 0)[i].2 := by simp [List.getD, h]
  unfold rotS
  rw [updS_same, e, e1, e2]
  rfl
theorem rot_step (st : Sts) {i : Nat} (h : i < (st 0).length) {x z : Int} (hx : ((st 0).map (·.1)).getD i 0 = x) (hz : ((st 0).map (·.2)).getD i 0 = z) :
    ∀ k, rotS st (i + 1) k = updS (updS (rotS st i) 0 ([] ++ ((st 0).drop (i + 1) ++ (st 0).take i))) 0 (updS (rotS st i) 0 ([] ++ ((st 0).drop (i + 1) ++ (st 0).take i)) 0 ++ [(x, z)]) k := by
  intro k
  have e1 : ((st 0).map (·.1)).getD i 0 = (st 0)[i].1 := by simp [List.getD, h]
  have e2 : ((st 0).map (·.2)).getD i 0 = (st 0)[i].2 := by simp [List.getD, h]
  by_cases hk : k = 0
  · subst hk
    rw [updS_same, updS_same]
    unfold rotS
    rw [updS_same, List.take_succ_eq_append_getElem h, ← hx, ← hz, e1, e2, List.nil_append, List.append_assoc]
  · unfold rotS
    rw [updS_ne _ _ hk, updS_ne _ _ hk, updS_ne _ _ hk, updS_ne _ _ hk]
theorem below_drewN (w : World) (m : Nat) : Below w.heap.size w (w.drewN m) := ⟨rfl, rfl, rfl, Nat.le_refl _, fun _ _ => rfl⟩
theorem ints_b {v u : Value} {la : List Int} {w : World} (ha : Reads w v la) (hb : Reads w u la) :
    Calls Try.prog 19 #[v, u] w fun e w' => e = .returned (.bool true) ∧ Below w.heap.size w w' :=
  (ints_yes rfl ha hb).mono (by rintro e w' ⟨rfl, m, rfl⟩; exact ⟨rfl, below_drewN _ _⟩)
section
variable {w0 : World}
theorem undo_ids {m n bx : Nat} {st : Sts} {r : Sep.Own} (h : DqAt bx m n st r) (hn : n ≤ 1000) {k : Nat} (hk : k < m) : (idsAt m st (k : Int)).take 1000 = (st k).map (·.1) := by
  have := h.len hk
  unfold idsAt
  rw [if_pos (by omega), Int.toNat_natCast, List.take_of_length_le (by rw [List.length_map]; omega)]
set_option maxHeartbeats 800000 in
set_option maxRecDepth 100000 in
theorem undo_out (v : Value) (l : List Int) (id weight : Int) (hv : Reads w0 v l) (h1 : 100 < l.length) : Calls Try.prog 5 #[v, .int .i64 id, .int .i64 weight] w0 fun e w' => e = .returned (.bool true) ∧ Below w0.heap.size w0 w' := by
  obtain ⟨hl, A, c, rfl, _⟩ := hv
  go_enter Try.func5, Try.ntmps5
  go_wp2_with fail
  go_at_call 8
  refine (dq_small w0).mono ?_
  rintro e w1 ⟨rfl, hb1⟩
  go_wp2_with fail
  go_at_call 9
  refine (dq_new 2 ((Owned.nil w0).under hb1)).mono ?_
  rintro e w2 ⟨g, r, rfl, hr, hO2⟩
  go_wp2_with fail
  go_ret
  exact ⟨rfl, hO2.below⟩
set_option maxHeartbeats 6400000 in
set_option maxRecDepth 100000 in
theorem undo_walk (v : Value) (l : List Int) (id weight : Int) (hv : Reads w0 v l) (h1 : l.length ≤ 100) : Calls Try.prog 5 #[v, .int .i64 id, .int .i64 weight] w0 fun e w' => e = .returned (.bool true) ∧ Below w0.heap.size w0 w' := by
  obtain ⟨hl, A, c, rfl, hc⟩ := hv
  generalize hN : l.length = N at *
  clear hN
  have HC := Lib.hid hc
  clear hc
  have hd := fun (w : World) (F : Sep.Own) (h : Owned w0 w F) => dq_new 2 h
  rw [show rowsN 2 = 2 from rfl] at hd
  go_enter Try.func5, Try.ntmps5
  go_wp2_with fail
  go_at_call 8
  refine (dq_small w0).mono ?_
  rintro e w1 ⟨rfl, hb1⟩
  go_wp2_with fail
  go_at_call 9
  refine (hd _ _ ((Owned.nil w0).under hb1)).mono ?_
  rintro e w2 ⟨g, r, rfl, hr, hO2⟩
  obtain ⟨F, hO2⟩ : ∃ F, Owned w0 w2 (r ++ F) := ⟨[], hO2⟩
  have HO2 := Lib.hid (show UnRel w0 F g 0 w2 from ⟨_, 0, r, hr, hO2, Nat.le_refl _⟩)
  clear hr hO2 hd
  go_wp2_with fail
  go_loopw [9] (fun x9 wr => ∃ k : Nat, k ≤ N ∧ x9 = .int .i64 (k : Int) ∧ Hid (UnRel w0 F g k wr)) (fun x9 _ => N - (intOf x9).toNat)
  case atStart => exact ⟨0, Nat.zero_le _, rfl, HO2⟩
  case round =>
    clear HO2
    obtain ⟨k, hk, rfl, hrel⟩ := hrel
    obtain ⟨st, n, r, hr, hO, hn⟩ := hrel.out
    clear hrel
    by_cases hlt : k < N
    · obtain ⟨b, off, rfl, hcell⟩ := HC.out (by omega)
      have HX := Lib.hid (show ∀ W (l' : Sep.Own), Owned w0 W l' → W.cell? ⟨b, off + k, none⟩ = some (.int .i64 (l.getD k 0)) from fun W l' h => (h.below.cell (p := ⟨b, off + k, none⟩) (World.block_lt_of_cell? _ _ (hcell k hlt))).trans (hcell k hlt))
      clear hcell HC
      generalize l.getD k 0 = x at *
      obtain ⟨p, hp3, hp⟩ := and_bd x 1 (by omega)
      have hp : bits .and .i64 x 1 = (p : Int) := hp
      obtain ⟨cc, st', -, CP⟩ := dq_push_r (w0 := w0) (by omega) (p : Int) x (k : Int) hr
      have CP0 := Lib.hid CP
      have t0 := HX.out _ _ hO.drew
      have HO := Lib.hid hO.drew
      have HNN := Lib.hid hn
      clear CP hr hO hn
      go_wp2_with fail
      first
        | go_region_held3 (fun w' => w'.cell? ⟨b, off + k, none⟩ = some (.int .i64 x)) (first | exact t0 | exact t1)
            (first | (go_at_call 10; (with_reducible refine (CP0.out _ _ HO.out).mono ?_); rintro e w4 ⟨rfl, n4, r4, hn4, hr4, hO4⟩; have t1 := HX.out _ _ hO4; have HN := Lib.hid (show UnRel w0 F g (k + 1) w4 from ⟨st', n4, r4, hr4, hO4, by have := HNN.out; omega⟩); clear hr4 hO4 hn4))
        | fail
      all_goals
        clear t0 t1 CP0 HO HNN HX
        go_wp2_with fail
        go_roundw
        case rel => exact ⟨k + 1, by omega, by go_num, HN⟩
        case measure => simp [intOf]; omega
    · obtain rfl : k = N := by omega
      clear HC hlt
      have hl0 := hr.len (k := 0) (by omega)
      have hl1 := hr.len (k := 1) (by omega)
      have RA := row_calls hr (by omega) 0 1000 (by omega) hO
      rw [show (0 : Int) = ((0 : Nat) : Int) from rfl, undo_ids hr (by omega) (by omega)] at RA
      have RB := Lib.hid (fun (W : World) (X : Sep.Own) (h : Owned w0 W (r ++ X)) => (by
        have h9 := row_calls hr (by omega) 1 1000 (by omega) h
        rw [show (1 : Int) = ((1 : Nat) : Int) from rfl, undo_ids hr (by omega) (by omega)] at h9
        exact h9 : Calls Try.prog 18 #[.pointer (some ⟨g, 0, none⟩), .int .i64 1, .int .i64 1000] W fun e w' => ∃ v rq, e = .returned v ∧ Row 3 1 v ((st 1).map (·.1)).length (ints ((st 1).map (·.1))) rq ∧ Owned w0 w' (rq ++ (r ++ X))))
      have RA0 := Lib.hid RA
      have HR := Lib.hid hr
      clear RA hr hO
      go_wp2_with fail
      go_at_call 18
      refine (RA0.out).mono ?_
      rintro e w3 ⟨va, qa, rfl, hrowa, hO3⟩
      have HO3 := Lib.hid hO3.comm
      clear hO3
      go_wp2_with fail
      go_at_call 18
      refine (RB.out _ _ HO3.out).mono ?_
      rintro e w4 ⟨vb, qb, rfl, hrowb, hO4⟩
      have HO4 := Lib.hid hO4.comm
      have hy := HR.out.sum (k := 0) (by omega)
      have CW := dq_weight_some (k := 0) HR.out (by omega) HO4.out
      obtain ⟨y, hye⟩ : ∃ y, sumW (st 0) = y := ⟨_, rfl⟩
      rw [hye] at CW hy
      have hyb : 0 ≤ y ∧ y ≤ 214748364800 := by omega
      have HY := Lib.hid hye
      have CW0 := Lib.hid CW
      obtain ⟨cc, st', hR, CP⟩ := dq_push_r (w0 := w0) (by omega) 0 id weight HR.out
      have CP0 := Lib.hid CP
      have HRP := Lib.hid hR
      obtain ⟨Aa, ca, rfl⟩ := hrowa.slice
      obtain ⟨Ab, cb, rfl⟩ := hrowb.slice
      have hLa : ((st 0).map (·.1)).length = (st 0).length := List.length_map _
      have hLb : ((st 1).map (·.1)).length = (st 1).length := List.length_map _
      have HRA := Lib.hid (show ∀ W (X : Sep.Own), Owned w0 W (qa ++ X) → Reads W (.slice Aa ((st 0).map (·.1)).length ca) ((st 0).map (·.1)) from fun W X h => reads_of_row hrowa (by omega) h)
      have HRB := Lib.hid (show ∀ W (X : Sep.Own), Owned w0 W (qb ++ X) → Reads W (.slice Ab ((st 1).map (·.1)).length cb) ((st 1).map (·.1)) from fun W X h => reads_of_row hrowb (by omega) h)
      obtain ⟨La, hLae⟩ : ∃ La, (st 0).length = La := ⟨_, rfl⟩
      obtain ⟨Lb, hLbe⟩ : ∃ Lb, (st 1).length = Lb := ⟨_, rfl⟩
      rw [hLa, hLae] at HRA ⊢
      rw [hLb, hLbe] at HRB ⊢
      rw [hLae] at hl0
      rw [hLbe] at hl1
      have HLA := Lib.hid hLae
      have HLB := Lib.hid hLbe
      obtain ⟨hy0, hy1⟩ := hyb
      clear CW CP hR hrowa hrowb hO4 hy hye hLa hLb hLae hLbe HO3 RB RA0
      go_wp2_with fail
      go_at_call 15
      refine (CW0.out).mono ?_
      rintro e w5 ⟨rfl, hb5⟩
      have HO5 := Lib.hid (HO4.out.under hb5)
      clear hb5 CW0 HO4
      go_wp2_with fail
      go_at_call 10
      refine (CP0.out _ _ HO5.out).mono ?_
      rintro e w6 ⟨rfl, n6, r6, hn6, hr6, hO6⟩
      have HO6 := Lib.hid hO6
      have HR6 := Lib.hid hr6
      clear hO6 hr6 CP0 HO5
      go_upto_if 56 with (fail)
      go_cut [] (fun wc => Hid (AtRel w0 (qb ++ (qa ++ F)) g st wc))
      case first =>
        cases HRP.out with
        | bad _ =>
          clear HRP
          have HN := Lib.hid (show AtRel w0 (qb ++ (qa ++ F)) g st w6 from ⟨n6, r6, HR6.out, HO6.out, by omega⟩)
          go_wp2_with fail
          go_meet
          case rel => exact HN
        | dup _ _ =>
          clear HRP
          have HN := Lib.hid (show AtRel w0 (qb ++ (qa ++ F)) g st w6 from ⟨n6, r6, HR6.out, HO6.out, by omega⟩)
          go_wp2_with fail
          go_meet
          case rel => exact HN
        | new h ha =>
          clear HRP
          obtain ⟨-, hi1, hi2, hw1, hw2⟩ := h
          have hr6 : DqAt g 2 n6 (updS st 0 (st 0 ++ [(id, weight)])) r6 := HR6.out
          have eb : lastI (updS st 0 (st 0 ++ [(id, weight)]) 0) = id := by rw [updS_same, lastI_snoc]
          have ew : sumW (updS st 0 (st 0 ++ [(id, weight)]) 0) = y + weight := by
            rw [updS_same, sumW_append, HY.out]
            show y + (weight + 0) = y + weight
            omega
          have CB := dq_back_some (k := 0) hr6 (by omega) HO6.out
          rw [eb] at CB
          have CB0 := Lib.hid CB
          have CW := Lib.hid (fun (W : World) (h : Owned w0 W (r6 ++ (qb ++ (qa ++ F)))) => (by have h9 := dq_weight_some (k := 0) hr6 (by omega) h; rw [ew] at h9; exact h9 : Calls Try.prog 15 #[.pointer (some ⟨g, 0, none⟩), .int .i64 0] W fun e w' => e = .returned (.int .i64 (y + weight)) ∧ Below W.heap.size W w'))
          have CU := Lib.hid (fun (W : World) (h : Owned w0 W (r6 ++ (qb ++ (qa ++ F)))) => dq_unlink_some (k := 0) (x := id) (z := weight) (xs := st 0) (ys := []) (by omega) hr6 (by omega) (updS_same _ _ _) h)
          have ha2 : Absent 2 (updS (updS st 0 (st 0 ++ [(id, weight)])) 0 (st 0 ++ [])) id := fun k hk p hp => by
            by_cases e : k = 0
            · subst e
              rw [updS_same, List.append_nil] at hp
              exact ha 0 hk p hp
            · rw [updS_ne _ _ e, updS_ne _ _ e] at hp
              exact ha k hk p hp
          have CV := Lib.hid (fun (W : World) (r7 : Sep.Own) (hr7 : DqAt g 2 n6 (updS (updS st 0 (st 0 ++ [(id, weight)])) 0 (st 0 ++ [])) r7) (h : Owned w0 W (r7 ++ (qb ++ (qa ++ F)))) => dq_unlink_none (x := id) hr7 (wfk_id ⟨hi1, hi2⟩) ha2 h)
          have HST := Lib.hid (show ∀ k, k < 2 → st k = updS (updS st 0 (st 0 ++ [(id, weight)])) 0 (st 0 ++ []) k from fun k _ => by
            by_cases e : k = 0
            · subst e
              rw [updS_same, List.append_nil]
            · rw [updS_ne _ _ e, updS_ne _ _ e])
          have sw : IntKind.i64.wrap (y + weight) = y + weight := by rw [IntKind.wrap_i64]; omega
          clear CB eb ew ha ha2 hr6 hi1 hi2
          go_wp2_with fail
          go_at_call 12
          refine (CB0.out).mono ?_
          rintro e w7 ⟨rfl, hb7⟩
          have HO7 := Lib.hid (HO6.out.under hb7)
          clear hb7 CB0 HO6
          go_wp2_with fail
          go_at_call 15
          refine (CW.out _ HO7.out).mono ?_
          rintro e w8 ⟨rfl, hb8⟩
          have HO8 := Lib.hid (HO7.out.under hb8)
          clear hb8 CW HO7
          go_wp2_with fail
          go_at_call 14
          refine (CU.out _ HO8.out).mono ?_
          rintro e w9 ⟨rfl, r9, hr9, hO9⟩
          have HO9 := Lib.hid hO9
          have HR9 := Lib.hid hr9
          clear hO9 hr9 CU HO8
          go_wp2_with fail
          go_at_call 14
          refine (CV.out _ _ HR9.out HO9.out).mono ?_
          rintro e w10 ⟨rfl, hb10⟩
          have HN := Lib.hid (show AtRel w0 (qb ++ (qa ++ F)) g st w10 from ⟨n6, r9, HR9.out.congr HST.out, HO9.out.under hb10, by omega⟩)
          clear hb10 CV HO9 HR9 HST
          go_wp2_with fail
          go_meet
          case rel => exact HN
      case rest =>
        clear HR6 HO6 HRP hn6 HR
        have HN0 := Lib.hid (show AtRel w0 (qb ++ (qa ++ F)) g (rotS st 0) wc from by
          obtain ⟨n, r, hr, hO, hn⟩ := hcut.out
          exact ⟨n, r, hr.congr (fun k _ => rot_zero st k), hO, hn⟩)
        clear hcut
        go_wp2_with fail
        go_loopw [13] (fun x13 wr => ∃ i : Nat, i ≤ La ∧ x13 = .int .i64 (i : Int) ∧ Hid (AtRel w0 (qb ++ (qa ++ F)) g (rotS st i) wr)) (fun x13 _ => La - (intOf x13).toNat)
        case atStart => exact ⟨0, Nat.zero_le _, rfl, HN0⟩
        case round =>
          clear HN0
          obtain ⟨i, hi, rfl, hrel⟩ := hrel
          by_cases hli : i < La
          · obtain ⟨n, r, hr, hO, hn⟩ := hrel.out
            clear hrel
            have hil : i < (st 0).length := by rw [HLA.out]; exact hli
            have hlm : ((st 0).map (·.1)).length = La := by rw [List.length_map, HLA.out]
            have hs := rot_split st hil
            have hlast := rot_step st hil rfl rfl
            obtain ⟨-, A6, c6, hA6, hcl⟩ := HRA.out wr _ (hO.perm ((List.Perm.append_left r (perm2 qb qa F)).trans (perm2 r qa (qb ++ F))))
            rw [hlm] at hcl hA6
            obtain ⟨b6, o6, rfl, -⟩ := hcl (by omega)
            injection hA6 with e1 e2 e3
            subst e1
            have HCELL := Lib.hid (show ∀ W (r : Sep.Own), Owned w0 W (r ++ (qb ++ (qa ++ F))) → W.cell? ⟨b6, o6 + i, none⟩ = some (.int .i64 (((st 0).map (·.1)).getD i 0)) from fun W r h => by
              obtain ⟨-, A7, c7, hA7, hcl7⟩ := HRA.out W _ (h.perm ((List.Perm.append_left r (perm2 qb qa F)).trans (perm2 r qa (qb ++ F))))
              rw [hlm] at hcl7 hA7
              obtain ⟨b7, o7, rfl, hq7⟩ := hcl7 (by omega)
              injection hA7 with e4 e5 e6
              injection e4 with e4
              injection e4 with e7 e8
              subst e7 e8
              exact hq7 i hli)
            obtain ⟨x, hx⟩ : ∃ x, ((st 0).map (·.1)).getD i 0 = x := ⟨_, rfl⟩
            obtain ⟨z, hz⟩ : ∃ z, ((st 0).map (·.2)).getD i 0 = z := ⟨_, rfl⟩
            rw [hx, hz] at hs hlast
            rw [hx] at HCELL
            have hfr : headI (rotS st i 0) = x := by rw [hs]; rfl
            have CF := Lib.hid (fun (W : World) (h : Owned w0 W (r ++ (qb ++ (qa ++ F)))) => (by have h9 := dq_front_some (k := 0) hr (by omega) h; rw [hfr] at h9; exact h9 : Calls Try.prog 11 #[.pointer (some ⟨g, 0, none⟩), .int .i64 0] W fun e w' => e = .returned (.int .i64 x) ∧ Below W.heap.size W w'))
            have CM := Lib.hid (fun (W : World) (h : Owned w0 W (r ++ (qb ++ (qa ++ F)))) => (show Calls Try.prog 17 #[.pointer (some ⟨g, 0, none⟩), .int .i64 x, .int .i64 0] W fun e w' => e = .returned (.int .i64 0) ∧ ∃ r', DqAt g 2 n (updS (updS (rotS st i) 0 ([] ++ ((st 0).drop (i + 1) ++ (st 0).take i))) 0 (updS (rotS st i) 0 ([] ++ ((st 0).drop (i + 1) ++ (st 0).take i)) 0 ++ [(x, z)])) r' ∧ Owned w0 w' (r' ++ (qb ++ (qa ++ F))) from dq_move_some (k := 0) (j := 0) (x := x) (z := z) (xs := []) (by omega) hr (by omega) (by omega) hs h))
            have HST := Lib.hid hlast
            have t0 := HCELL.out _ _ hO.drew
            have HO := Lib.hid hO.drew
            have HNN := Lib.hid hn
            clear hs hlast hfr hx hz hcl hlm hil e2 e3 hO hr hn
            go_wp2_with fail
            go_region_held3 (fun w' => w'.cell? ⟨b6, o6 + i, none⟩ = some (.int .i64 x)) (first | exact t0 | exact t1 | exact t2)
              (first
                | (go_at_call 11; (with_reducible refine (CF.out _ HO.out).mono ?_); rintro e w4 ⟨rfl, hb4⟩; have HO4 := Lib.hid (HO.out.under hb4); have t1 := HCELL.out _ _ HO4.out; clear hb4)
                | (go_at_call 17; (with_reducible refine (CM.out _ HO4.out).mono ?_); rintro e w5 ⟨rfl, r5, hr5, hO5⟩; have t2 := HCELL.out _ _ hO5; have HN := Lib.hid (show AtRel w0 (qb ++ (qa ++ F)) g (rotS st (i + 1)) w5 from ⟨n, r5, hr5.congr (fun k _ => HST.out k), hO5, HNN.out⟩); clear hr5 hO5))
            all_goals
              clear t0 t1 t2 CF CM HO HO4 HNN HST HCELL
              go_wp2_with fail
              go_roundw
              case rel => exact ⟨i + 1, by omega, by go_num, HN⟩
              case measure => simp [intOf]; omega
          · obtain rfl : i = La := by omega
            obtain ⟨n, r, hr, hO, hn⟩ := hrel.out
            clear hrel hli
            have hr := hr.congr (fun k _ => (rot_all st HLA.out k).symm)
            have RA := row_calls hr (by omega) 0 1000 (by omega) hO
            rw [show (0 : Int) = ((0 : Nat) : Int) from rfl, undo_ids hr (by omega) (by omega)] at RA
            have RA0 := Lib.hid RA
            have RB := Lib.hid (fun (W : World) (X : Sep.Own) (h : Owned w0 W (r ++ X)) => (by
              have h9 := row_calls hr (by omega) 1 1000 (by omega) h
              rw [show (1 : Int) = ((1 : Nat) : Int) from rfl, undo_ids hr (by omega) (by omega)] at h9
              exact h9 : Calls Try.prog 18 #[.pointer (some ⟨g, 0, none⟩), .int .i64 1, .int .i64 1000] W fun e w' => ∃ v rq, e = .returned v ∧ Row 3 1 v ((st 1).map (·.1)).length (ints ((st 1).map (·.1))) rq ∧ Owned w0 w' (rq ++ (r ++ X))))
            have CW := Lib.hid (fun (W : World) (X : Sep.Own) (h : Owned w0 W (r ++ X)) => (by have h9 := dq_weight_some (k := 0) hr (by omega) h; rw [HY.out] at h9; exact h9 : Calls Try.prog 15 #[.pointer (some ⟨g, 0, none⟩), .int .i64 0] W fun e w' => e = .returned (.int .i64 y) ∧ Below W.heap.size W w'))
            clear RA hO hr hn
            go_wp2_with fail
            go_at_call 18
            refine (RA0.out).mono ?_
            rintro e w3 ⟨v7, q7, rfl, hrow7, hO3⟩
            have ha := reads_of_row hrow7 (by rw [List.length_map, HLA.out]; omega) hO3
            have hb := HRA.out w3 (q7 ++ (r ++ (qb ++ F))) (hO3.perm ((List.Perm.append_left q7 (List.Perm.append_left r (perm2 qb qa F))).trans (perm3 q7 r qa (qb ++ F))))
            have HO3 := Lib.hid hO3.drop_
            clear hrow7 hO3 RA0
            go_wp2_with fail
            go_at_call 19
            refine (ints_b ha hb).mono ?_
            rintro e w4 ⟨rfl, hb4⟩
            have HO4 := Lib.hid (HO3.out.under hb4)
            clear ha hb hb4 HO3
            go_wp2_with fail
            go_at_call 18
            refine (RB.out _ _ HO4.out).mono ?_
            rintro e w5 ⟨v8, q8, rfl, hrow8, hO5⟩
            have ha := reads_of_row hrow8 (by rw [List.length_map, HLB.out]; omega) hO5
            have hb := HRB.out w5 (q8 ++ (r ++ (qa ++ F))) (hO5.perm (perm3 q8 r qb (qa ++ F)))
            have HO5 := Lib.hid hO5.drop_
            clear hrow8 hO5 RB
            go_wp2_with fail
            go_at_call 19
            refine (ints_b ha hb).mono ?_
            rintro e w6 ⟨rfl, hb6⟩
            have HO6 := Lib.hid (HO5.out.under hb6)
            clear ha hb hb6 HO5
            go_wp2_with fail
            go_at_call 15
            refine (CW.out _ _ HO6.out).mono ?_
            rintro e w8 ⟨rfl, hb8⟩
            have HO8 := Lib.hid (HO6.out.under hb8)
            go_wp2_with fail
            go_ret
            exact ⟨rfl, HO8.out.below⟩
end
end Go.Proofs.Ytlnokijfmkldkaa
