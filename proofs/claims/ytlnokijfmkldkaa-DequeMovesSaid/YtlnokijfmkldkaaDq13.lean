/- The statements of layer 7: DequeMoves, the walk. -/
import Derived.Test.YtlnokijfmkldkaaDq12
import Derived.Test.YtlnokijfmkldkaaReadsR
import Derived.Deep.RegionHeld3
import Derived.Lib.QuietBelow
import Derived.BigQuiet
namespace Go.Proofs.Ytlnokijfmkldkaa
open Go.RowKit Go.Sep DqPure Go.Lib
/-- the two numbers of an element, in any later world -/
def TwoAt (w0 : World) (b off : Nat) (k : Nat) (x y : Int) : Prop := ∀ W (l' : Own), Owned w0 W l' → W.cell? ⟨b, off + k * 2, none⟩ = some (.int .i64 x) ∧ W.cell? ⟨b, off + k * 2 + 1, none⟩ = some (.int .i64 y)
theorem two_at {w0 : World} {b off N : Nat} {f : Nat → Nat → Int} (h : ∀ i j, i < N → j < 2 → w0.cell? ⟨b, off + (i * 2 + j), none⟩ = some (.int .i64 (f i j))) {k : Nat} (hk : k < N) : TwoAt w0 b off k (f k 0) (f k 1) := by
  intro W l' hO
  have h0 := h k 0 hk (by omega)
  have h1 := h k 1 hk (by omega)
  rw [Nat.add_zero] at h0
  rw [← Nat.add_assoc] at h1
  exact ⟨(hO.below.cell (p := ⟨b, off + k * 2, none⟩) (World.block_lt_of_cell? _ _ h0)).trans h0, (hO.below.cell (p := ⟨b, off + k * 2 + 1, none⟩) (World.block_lt_of_cell? _ _ h1)).trans h1⟩
def MvRel (w0 : World) (F : Own) (bx k : Nat) (S : Int) (N : Nat) (w : World) : Prop :=
  ∃ st n r, DqAt bx 4 n st r ∧ Owned w0 w (r ++ F) ∧ n ≤ k ∧ totw st 4 = S ∧ totl st 4 = N ∧ S ≤ 100 * (k : Int) ∧ 0 ≤ S ∧ N ≤ 4 * k
section
variable {w0 : World}
set_option maxHeartbeats 800000 in
set_option maxRecDepth 100000 in
theorem moves_out1 (v u : Value) (l : List Int) (N2 : Nat) (f : Nat → Nat → Int) (hv : Reads w0 v l) (hu : ReadsR 2 w0 u N2 f) (h1 : 60 < l.length) : Calls Try.prog 4 #[v, u] w0 fun e w' => e = .returned (.bool true) ∧ Below w0.heap.size w0 w' := by
  obtain ⟨hl, A, c, rfl, _⟩ := hv
  obtain ⟨hl2, hbd, A2, c2, rfl, _⟩ := hu
  clear hbd
  go_enter Try.func4, Try.ntmps4
  go_wp2_with fail
  go_at_call 8
  refine (dq_small w0).mono ?_
  rintro e w1 ⟨rfl, hb1⟩
  go_wp2_with fail
  go_at_call 9
  refine (dq_new 4 ((Owned.nil w0).under hb1)).mono ?_
  rintro e w2 ⟨g, r, rfl, hr, hO2⟩
  go_wp2_with fail
  go_ret
  exact ⟨rfl, hO2.below⟩
set_option maxHeartbeats 800000 in
set_option maxRecDepth 100000 in
theorem moves_out2 (v u : Value) (l : List Int) (N2 : Nat) (f : Nat → Nat → Int) (hv : Reads w0 v l) (hu : ReadsR 2 w0 u N2 f) (h1 : l.length ≤ 60) (h2 : 100 < N2) : Calls Try.prog 4 #[v, u] w0 fun e w' => e = .returned (.bool true) ∧ Below w0.heap.size w0 w' := by
  obtain ⟨hl, A, c, rfl, _⟩ := hv
  obtain ⟨hl2, hbd, A2, c2, rfl, _⟩ := hu
  clear hbd
  go_enter Try.func4, Try.ntmps4
  go_wp2_with fail
  go_at_call 8
  refine (dq_small w0).mono ?_
  rintro e w1 ⟨rfl, hb1⟩
  go_wp2_with fail
  go_at_call 9
  refine (dq_new 4 ((Owned.nil w0).under hb1)).mono ?_
  rintro e w2 ⟨g, r, rfl, hr, hO2⟩
  go_wp2_with fail
  go_ret
  exact ⟨rfl, hO2.below⟩
set_option maxHeartbeats 6400000 in
set_option maxRecDepth 100000 in
theorem moves_walk (v u : Value) (l : List Int) (N2 : Nat) (f : Nat → Nat → Int) (hv : Reads w0 v l) (hu : ReadsR 2 w0 u N2 f) (h1 : l.length ≤ 60) (h2 : N2 ≤ 100) : Calls Try.prog 4 #[v, u] w0 fun e w' => e = .returned (.bool true) ∧ Below w0.heap.size w0 w' := by
  obtain ⟨hl, A, c, rfl, hc⟩ := hv
  obtain ⟨hl2, hbd, A2, c2, rfl, hc2⟩ := hu
  generalize hN : l.length = N at *
  clear hN
  have HC := Lib.hid hc
  have HC2 := Lib.hid hc2
  have HBD := Lib.hid hbd
  clear hc hc2 hbd
  have hd := fun (w : World) (F : Own) (h : Owned w0 w F) => dq_new 4 h
  rw [show rowsN 4 = 4 from rfl] at hd
  go_enter Try.func4, Try.ntmps4
  go_wp2_with fail
  go_at_call 8
  refine (dq_small w0).mono ?_
  rintro e w1 ⟨rfl, hb1⟩
  go_wp2_with fail
  go_at_call 9
  refine (hd _ _ ((Owned.nil w0).under hb1)).mono ?_
  rintro e w2 ⟨g, r, rfl, hr, hO2⟩
  obtain ⟨F, hO2⟩ : ∃ F, Owned w0 w2 (r ++ F) := ⟨[], hO2⟩
  have HO2 := Lib.hid (show MvRel w0 F g 0 0 0 w2 from ⟨_, 0, r, hr, hO2, Nat.le_refl _, totw_nil 4, totl_nil 4, by omega, by omega, by omega⟩)
  clear hr hO2 hd
  go_wp2_with fail
  go_loopw [7, 8, 9] (fun x7 x8 x9 wr => ∃ (k : Nat) (S : Int) (M : Nat), k ≤ N ∧ 0 ≤ S ∧ S ≤ 100 * (k : Int) ∧ M ≤ 4 * k ∧ x7 = .int .i64 S ∧ x8 = .int .i64 (M : Int) ∧ x9 = .int .i64 (k : Int) ∧ Hid (MvRel w0 F g k S M wr)) (fun _ _ x9 _ => N - (intOf x9).toNat)
  case atStart => exact ⟨0, 0, 0, Nat.zero_le _, by omega, by omega, by omega, rfl, rfl, rfl, HO2⟩
  case round =>
    clear HO2
    obtain ⟨k, S, M, hk, hS0, hS, hM, rfl, rfl, rfl, hrel⟩ := hrel
    by_cases hlt : k < N
    · obtain ⟨st, n, r, hr, hO, hn, hs1, hs2, hs3, hs4, hs5⟩ := hrel.out
      clear hrel
      obtain ⟨b, off, rfl, hcell⟩ := HC.out (by omega)
      have cx : wr.cell? ⟨b, off + k, none⟩ = some (.int .i64 (l.getD k 0)) := (hO.below.cell (p := ⟨b, off + k, none⟩) (World.block_lt_of_cell? _ _ (hcell k hlt))).trans (hcell k hlt)
      clear hcell HC HC2 HBD
      generalize l.getD k 0 = x at *
      obtain ⟨p, hp3, hp⟩ := and_bd (k : Int) 3 (by omega)
      have hp : bits .and .i64 (k : Int) 3 = (p : Int) := hp
      rcases dq_push_any (w0 := w0) (by omega) p x (k : Int) (by omega) (by omega) hr with ⟨e, he, CP⟩ | ⟨_, _, CP⟩
      · have CP0 := Lib.hid (CP _ _ hO)
        have HR := Lib.hid (show ∀ W, Owned w0 W (r ++ F) → MvRel w0 F g (k + 1) S M W from fun W h => ⟨st, n, r, hr, h, by omega, hs1, hs2, by omega, hs4, by omega⟩)
        have HO := Lib.hid hO
        have he0 : ¬ e = 0 := by omega
        clear CP hr hO hn hs1 hs2 hs3 hs4 hs5 he hp3
        go_wp2_with fail
        go_at_call 10
        refine (CP0.out).mono ?_
        rintro e2 w3 ⟨rfl, hb3⟩
        have HN := Lib.hid (HR.out _ (HO.out.under hb3))
        clear hb3 CP0 HO HR cx
        go_wp2_with fail
        go_roundw
        case rel => exact ⟨k + 1, S, M, by omega, by omega, by omega, by omega, rfl, rfl, by go_num, HN⟩
        case measure => simp [intOf]; omega
      · have CP0 := Lib.hid (CP _ _ hO)
        have HR := Lib.hid (show ∀ W r', DqAt g 4 (n + 1) (updS st p (st p ++ [(x, (k : Int))])) r' → Owned w0 W (r' ++ F) → MvRel w0 F g (k + 1) (S + k) (M + 1) W from fun W r' h1 h2 => by
          have t1 := totw_upd st (st p ++ [(x, (k : Int))]) 4 (show p < 4 by omega)
          have t2 := totl_upd st (st p ++ [(x, (k : Int))]) 4 (show p < 4 by omega)
          rw [sumW_append, sumW, sumW] at t1
          rw [List.length_append, List.length_singleton] at t2
          exact ⟨_, n + 1, r', h1, h2, by omega, by omega, by omega, by omega, by omega, by omega⟩)
        clear CP hr hO hn hs1 hs2 hs3 hs4 hs5 hp3
        go_wp2_with fail
        go_at_call 10
        refine (CP0.out).mono ?_
        rintro e2 w3 ⟨rfl, r3, hr3, hO3⟩
        have HN := Lib.hid (HR.out _ _ hr3 hO3)
        clear hr3 hO3 CP0 HR cx
        go_wp2_with fail
        go_roundw
        case rel => exact ⟨k + 1, S + k, M + 1, by omega, by omega, by omega, by omega, by go_num, by go_num, by go_num, HN⟩
        case measure => simp [intOf]; omega
    · obtain rfl : k = N := by omega
      have HO := Lib.hid (show MvRel w0 F g 60 S M wr from by
        obtain ⟨st, n, r, hr, hO, hn, hs1, hs2, hs3, hs4, hs5⟩ := hrel.out
        exact ⟨st, n, r, hr, hO, by omega, hs1, hs2, by omega, hs4, by omega⟩)
      clear hrel HC hlt
      have hS2 : S ≤ 6000 := by omega
      have hM2 : M ≤ 240 := by omega
      clear hS hM
      go_wp2_with fail
      go_loopw [10] (fun x10 wr => ∃ i : Nat, i ≤ N2 ∧ x10 = .int .i64 (i : Int) ∧ Hid (MvRel w0 F g 60 S M wr)) (fun x10 _ => N2 - (intOf x10).toNat)
      case atStart => exact ⟨0, Nat.zero_le _, rfl, HO⟩
      case round =>
        clear HO
        obtain ⟨i, hi, rfl, hrel⟩ := hrel
        by_cases hlt : i < N2
        · obtain ⟨st, n, r, hr, hO, hn, hs1, hs2, hs3, hs4, hs5⟩ := hrel.out
          clear hrel
          obtain ⟨b, off, rfl, hcell⟩ := HC2.out (by omega)
          have TA := Lib.hid (two_at hcell hlt)
          have hx := wfk_of (HBD.out i 0 hlt (by omega)).1 (HBD.out i 0 hlt (by omega)).2
          clear hcell HC2 HBD
          generalize f i 0 = x at *
          generalize f i 1 = t at *
          have t0 := TA.out _ _ hO
          obtain ⟨t0a, t0b⟩ := t0
          have hcase := dq_move_any (w0 := w0) (show n ≤ 1000000 by omega) x t hx hr
          have HO := Lib.hid hO
          have HR := Lib.hid (show ∀ W st' r', DqAt g 4 n st' r' → totw st' 4 = totw st 4 → totl st' 4 = totl st 4 → Owned w0 W (r' ++ F) → MvRel w0 F g 60 S M W from fun W st' r' h1 h2 h3 h4 => ⟨st', n, r', h1, h4, hn, by omega, by omega, by omega, by omega, by omega⟩)
          clear hn hs1 hs2 hs3 hs4 hs5 hO
          rcases hcase with ⟨e, a, z, he, CO, CM⟩ | ⟨a, z, j, st', rfl, hj, hlast, htw, htl, CO, CM, CO2⟩
          case inr =>
            have CO := Lib.hid CO
            have CM := Lib.hid CM
            have CO2 := Lib.hid CO2
            have HR := Lib.hid (fun W r' h1 h4 => HR.out W st' r' h1 htw htl h4)
            have hlast := Lib.hid hlast
            clear hr htw htl
            go_wp2_with fail
            go_at_call 16
            refine (CO.out _ _ HO.out).mono ?_
            rintro e2 w3 ⟨rfl, hb3⟩
            have HO3 := Lib.hid (HO.out.under hb3)
            clear hb3 t0a t0b
            have t3 := TA.out _ _ HO3.out.drew
            go_wp2_with fail
            first
              | go_region_held3 (fun w' => w'.cell? ⟨b, off + i * 2, none⟩ = some (.int .i64 x) ∧ w'.cell? ⟨b, off + i * 2 + 1, none⟩ = some (.int .i64 (j : Int))) (first | exact t3 | exact t4)
                  (first | (go_at_call 17; (with_reducible refine (CM.out _ _ HO3.out.drew).mono ?_); rintro e2 w4 ⟨rfl, r4, hr4, hO4⟩; have t4 := TA.out _ _ hO4; have HR4 := Lib.hid hr4; have HO4 := Lib.hid hO4; clear hr4 hO4))
              | fail
            obtain ⟨t4a, t4b⟩ := t4
            clear t3
            go_wp2_with fail
            go_at_call 16
            refine (CO2.out _ _ _ HR4.out HO4.out).mono ?_
            rintro e2 w5 ⟨rfl, hb5⟩
            have HO5 := Lib.hid (HO4.out.under hb5)
            clear hb5 t4a t4b
            have t5a := cell_regrown (TA.out _ _ HO5.out).1
            have t5b := cell_regrown (TA.out _ _ HO5.out).2
            have CB := Lib.hid (show ∀ W, Owned w0 W (r4 ++ F) → Calls Try.prog 12 #[.pointer (some ⟨g, 0, none⟩), .int .i64 (j : Int)] W fun e w' => e = .returned (.int .i64 x) ∧ Below W.heap.size W w' from fun W h => by have h9 := dq_back_some (k := j) HR4.out hj h; rw [hlast.out] at h9; exact h9)
            have cb := fun d os => CB.out _ (HO5.out.under (below_regrown w5 d os))
            go_wp2_with fail
            refine wp_region_quiet_below (by kernel_rfl) (by kernel_rfl) ?_
            repeat (first | go_big_quiet_step ((first | (go_at_call 12; with_reducible exact Calls.regrown_of (cb _ _)))) | quiet_step ((first | (go_at_call 12; with_reducible exact Calls.regrown_of (cb _ _)))))
            refine wpQuiet_nil ?_
            intro _ hw'
            obtain ⟨⟨dq, osq⟩, hw''⟩ := hw'
            subst hw''
            have HO6 := Lib.hid (HO5.out.under (below_regrown _ dq osq))
            have HN := Lib.hid (HR.out _ _ HR4.out HO6.out)
            clear t5a t5b cb CB HO6 HO5 HO4 HR4 CO2 HO3 CM CO HO HR hlast
            go_wp2_with fail
            go_loopw [16, 17, 18] (fun x16 x17 x18 wr => ∃ (k4 : Nat) (y : Int) (u : Nat), k4 ≤ 4 ∧ x16 = .int .i64 y ∧ x17 = .int .i64 (u : Int) ∧ x18 = .int .i64 (k4 : Int) ∧ Hid (∃ st n r, DqAt g 4 n st r ∧ Owned w0 wr (r ++ F) ∧ n ≤ 60 ∧ totw st 4 = S ∧ totl st 4 = M ∧ S ≤ 100 * (60 : Int) ∧ 0 ≤ S ∧ M ≤ 4 * 60 ∧ totw st k4 = y ∧ totl st k4 = u)) (fun _ _ x18 _ => 4 - (intOf x18).toNat)
            case atStart =>
              refine ⟨0, 0, 0, by omega, rfl, rfl, rfl, ?_⟩
              obtain ⟨st, n, r, hr, hO, hn, hs1, hs2, hs3, hs4, hs5⟩ := HN.out
              exact Lib.hid ⟨st, n, r, hr, hO, hn, hs1, hs2, by omega, hs4, by omega, rfl, rfl⟩
            case round =>
              clear HN
              obtain ⟨k4, y, u, hk4, rfl, rfl, rfl, hrel⟩ := hrel
              obtain ⟨st, n, r, hr, hO, hn, hs1, hs2, hs3, hs4, hs5, hy, hu⟩ := hrel.out
              clear hrel
              by_cases hlt4 : k4 < 4
              · have CW := Lib.hid (dq_weight_some hr hlt4 hO)
                have b1 := hr.sum hlt4
                have b2 := hr.tot_bd k4 hk4
                have b3 := hr.len hlt4
                rw [hy, hu] at b2
                have b4 : (n : Int) * 2147483648 ≤ 60 * 2147483648 := by omega
                have b5 : (k4 : Int) * ((n : Int) * 2147483648) ≤ 4 * (60 * 2147483648) := Int.mul_le_mul (by omega) b4 (by omega) (by omega)
                have b6 : k4 * n ≤ 4 * 60 := Nat.mul_le_mul (by omega) hn
                have e1 : totw st (k4 + 1) = y + sumW (st k4) := by rw [totw, hy]
                have e2 : totl st (k4 + 1) = u + (st k4).length := by rw [totl, hu]
                obtain ⟨yw, hyw⟩ : ∃ yw, sumW (st k4) = yw := ⟨_, rfl⟩
                obtain ⟨ul, hul⟩ : ∃ ul, (st k4).length = ul := ⟨_, rfl⟩
                rw [hyw] at b1 e1
                rw [hul] at b3 e2
                have CW0 := Lib.hid (show Calls Try.prog 15 #[.pointer (some ⟨g, 0, none⟩), .int .i64 (k4 : Int)] wr fun e w' => e = .returned (.int .i64 yw) ∧ Below wr.heap.size wr w' from hyw ▸ CW.out)
                have CL0 := Lib.hid (show ∀ W, Owned w0 W (r ++ F) → Calls Try.prog 13 #[.pointer (some ⟨g, 0, none⟩), .int .i64 (k4 : Int)] W fun e w' => e = .returned (.int .i64 (ul : Int)) ∧ Below W.heap.size W w' from fun W h => hul ▸ dq_len_some hr hlt4 h)
                have HR := Lib.hid (show ∀ W, Owned w0 W (r ++ F) → ∃ st n r, DqAt g 4 n st r ∧ Owned w0 W (r ++ F) ∧ n ≤ 60 ∧ totw st 4 = S ∧ totl st 4 = M ∧ S ≤ 100 * (60 : Int) ∧ 0 ≤ S ∧ M ≤ 4 * 60 ∧ totw st (k4 + 1) = y + yw ∧ totl st (k4 + 1) = u + ul from fun W h => ⟨st, n, r, hr, h, hn, hs1, hs2, hs3, hs4, hs5, e1, e2⟩)
                have HO := Lib.hid hO
                have c1 : 0 ≤ yw ∧ yw ≤ 60 * 2147483648 := by omega
                have c2 : 0 ≤ y ∧ y ≤ 240 * 2147483648 := by omega
                have c3 : u ≤ 240 ∧ ul ≤ 60 := by omega
                obtain ⟨c1a, c1b⟩ := c1
                obtain ⟨c2a, c2b⟩ := c2
                obtain ⟨c3a, c3b⟩ := c3
                clear hyw hul CW b1 b2 b3 b4 b5 b6 e1 e2 hy hu hs1 hs2 hs3 hs4 hs5 hr hO hn
                go_wp2_with fail
                go_at_call 15
                refine (CW0.out).mono ?_
                rintro e2 w7 ⟨rfl, hb7⟩
                have HO7 := Lib.hid (HO.out.under hb7)
                clear hb7 CW0 HO
                go_wp2_with fail
                go_at_call 13
                refine (CL0.out _ HO7.out).mono ?_
                rintro e2 w8 ⟨rfl, hb8⟩
                have HN8 := Lib.hid (HR.out _ (HO7.out.under hb8))
                clear hb8 CL0 HO7 HR
                go_wp2_with fail
                go_roundw
                case rel => exact ⟨k4 + 1, y + yw, u + ul, by omega, by go_num, by go_num, by go_num, HN8⟩
                case measure => simp [intOf]; omega
              · obtain rfl : k4 = 4 := by omega
                have HN := Lib.hid (show MvRel w0 F g 60 S M wr from ⟨st, n, r, hr, hO, hn, hs1, hs2, hs3, hs4, hs5⟩)
                obtain rfl : S = y := by omega
                obtain rfl : M = u := by omega
                clear hr hO hn hs1 hs2 hs3 hs4 hs5 hy hu hlt4
                go_wp2_with fail
                go_roundw
                case rel => exact ⟨i + 1, by omega, by go_num, HN⟩
                case measure => simp [intOf]; omega
          case inl =>
            have CO := Lib.hid CO
            have CM := Lib.hid CM
            have HR := Lib.hid (fun W h4 => HR.out W st r hr rfl rfl h4)
            have he0 : decide (e = 0) = false := by simp; omega
            have he1 : ¬ e = 0 := by omega
            clear hr he
            go_wp2_with fail
            go_at_call 16
            refine (CO.out _ _ HO.out).mono ?_
            rintro e2 w3 ⟨rfl, hb3⟩
            have HO3 := Lib.hid (HO.out.under hb3)
            clear hb3 t0a t0b
            have t3 := TA.out _ _ HO3.out.drew
            go_wp2_with fail
            first
              | go_region_held3 (fun w' => w'.cell? ⟨b, off + i * 2, none⟩ = some (.int .i64 x) ∧ w'.cell? ⟨b, off + i * 2 + 1, none⟩ = some (.int .i64 t)) (first | exact t3 | exact t4)
                  (first | (go_at_call 17; (with_reducible refine (CM.out _ _ HO3.out.drew).mono ?_); rintro e2 w4 ⟨rfl, hb4⟩; have hO4 := HO3.out.drew.under hb4; have t4 := TA.out _ _ hO4; have HO4 := Lib.hid hO4; clear hO4 hb4))
              | fail
            obtain ⟨t4a, t4b⟩ := t4
            clear t3
            go_wp2_with fail
            go_at_call 16
            refine (CO.out _ _ HO4.out).mono ?_
            rintro e2 w5 ⟨rfl, hb5⟩
            have HO5 := Lib.hid (HO4.out.under hb5)
            clear hb5 t4a t4b
            have t5a := cell_regrown (TA.out _ _ HO5.out).1
            have t5b := cell_regrown (TA.out _ _ HO5.out).2
            go_wp2_with fail
            refine wp_region_quiet_below (by kernel_rfl) (by kernel_rfl) ?_
            repeat (first | go_big_quiet_step ((first | (go_at_call 12; with_reducible exact Calls.regrown_of (cb _ _)))) | quiet_step ((first | (go_at_call 12; with_reducible exact Calls.regrown_of (cb _ _)))))
            refine wpQuiet_nil ?_
            intro _ hw'
            obtain ⟨⟨dq, osq⟩, hw''⟩ := hw'
            subst hw''
            have HO6 := Lib.hid (HO5.out.under (below_regrown _ dq osq))
            have HN := Lib.hid (HR.out _ HO6.out)
            clear t5a t5b HO6 HO5 HO4 HO3 CM CO HO HR he0 he1
            go_wp2_with fail
            go_loopw [16, 17, 18] (fun x16 x17 x18 wr => ∃ (k4 : Nat) (y : Int) (u : Nat), k4 ≤ 4 ∧ x16 = .int .i64 y ∧ x17 = .int .i64 (u : Int) ∧ x18 = .int .i64 (k4 : Int) ∧ Hid (∃ st n r, DqAt g 4 n st r ∧ Owned w0 wr (r ++ F) ∧ n ≤ 60 ∧ totw st 4 = S ∧ totl st 4 = M ∧ S ≤ 100 * (60 : Int) ∧ 0 ≤ S ∧ M ≤ 4 * 60 ∧ totw st k4 = y ∧ totl st k4 = u)) (fun _ _ x18 _ => 4 - (intOf x18).toNat)
            case atStart =>
              refine ⟨0, 0, 0, by omega, rfl, rfl, rfl, ?_⟩
              obtain ⟨st, n, r, hr, hO, hn, hs1, hs2, hs3, hs4, hs5⟩ := HN.out
              exact Lib.hid ⟨st, n, r, hr, hO, hn, hs1, hs2, by omega, hs4, by omega, rfl, rfl⟩
            case round =>
              clear HN
              obtain ⟨k4, y, u, hk4, rfl, rfl, rfl, hrel⟩ := hrel
              obtain ⟨st, n, r, hr, hO, hn, hs1, hs2, hs3, hs4, hs5, hy, hu⟩ := hrel.out
              clear hrel
              by_cases hlt4 : k4 < 4
              · have CW := Lib.hid (dq_weight_some hr hlt4 hO)
                have b1 := hr.sum hlt4
                have b2 := hr.tot_bd k4 hk4
                have b3 := hr.len hlt4
                rw [hy, hu] at b2
                have b4 : (n : Int) * 2147483648 ≤ 60 * 2147483648 := by omega
                have b5 : (k4 : Int) * ((n : Int) * 2147483648) ≤ 4 * (60 * 2147483648) := Int.mul_le_mul (by omega) b4 (by omega) (by omega)
                have b6 : k4 * n ≤ 4 * 60 := Nat.mul_le_mul (by omega) hn
                have e1 : totw st (k4 + 1) = y + sumW (st k4) := by rw [totw, hy]
                have e2 : totl st (k4 + 1) = u + (st k4).length := by rw [totl, hu]
                obtain ⟨yw, hyw⟩ : ∃ yw, sumW (st k4) = yw := ⟨_, rfl⟩
                obtain ⟨ul, hul⟩ : ∃ ul, (st k4).length = ul := ⟨_, rfl⟩
                rw [hyw] at b1 e1
                rw [hul] at b3 e2
                have CW0 := Lib.hid (show Calls Try.prog 15 #[.pointer (some ⟨g, 0, none⟩), .int .i64 (k4 : Int)] wr fun e w' => e = .returned (.int .i64 yw) ∧ Below wr.heap.size wr w' from hyw ▸ CW.out)
                have CL0 := Lib.hid (show ∀ W, Owned w0 W (r ++ F) → Calls Try.prog 13 #[.pointer (some ⟨g, 0, none⟩), .int .i64 (k4 : Int)] W fun e w' => e = .returned (.int .i64 (ul : Int)) ∧ Below W.heap.size W w' from fun W h => hul ▸ dq_len_some hr hlt4 h)
                have HR := Lib.hid (show ∀ W, Owned w0 W (r ++ F) → ∃ st n r, DqAt g 4 n st r ∧ Owned w0 W (r ++ F) ∧ n ≤ 60 ∧ totw st 4 = S ∧ totl st 4 = M ∧ S ≤ 100 * (60 : Int) ∧ 0 ≤ S ∧ M ≤ 4 * 60 ∧ totw st (k4 + 1) = y + yw ∧ totl st (k4 + 1) = u + ul from fun W h => ⟨st, n, r, hr, h, hn, hs1, hs2, hs3, hs4, hs5, e1, e2⟩)
                have HO := Lib.hid hO
                have c1 : 0 ≤ yw ∧ yw ≤ 60 * 2147483648 := by omega
                have c2 : 0 ≤ y ∧ y ≤ 240 * 2147483648 := by omega
                have c3 : u ≤ 240 ∧ ul ≤ 60 := by omega
                obtain ⟨c1a, c1b⟩ := c1
                obtain ⟨c2a, c2b⟩ := c2
                obtain ⟨c3a, c3b⟩ := c3
                clear hyw hul CW b1 b2 b3 b4 b5 b6 e1 e2 hy hu hs1 hs2 hs3 hs4 hs5 hr hO hn
                go_wp2_with fail
                go_at_call 15
                refine (CW0.out).mono ?_
                rintro e2 w7 ⟨rfl, hb7⟩
                have HO7 := Lib.hid (HO.out.under hb7)
                clear hb7 CW0 HO
                go_wp2_with fail
                go_at_call 13
                refine (CL0.out _ HO7.out).mono ?_
                rintro e2 w8 ⟨rfl, hb8⟩
                have HN8 := Lib.hid (HR.out _ (HO7.out.under hb8))
                clear hb8 CL0 HO7 HR
                go_wp2_with fail
                go_roundw
                case rel => exact ⟨k4 + 1, y + yw, u + ul, by omega, by go_num, by go_num, by go_num, HN8⟩
                case measure => simp [intOf]; omega
              · obtain rfl : k4 = 4 := by omega
                have HN := Lib.hid (show MvRel w0 F g 60 S M wr from ⟨st, n, r, hr, hO, hn, hs1, hs2, hs3, hs4, hs5⟩)
                obtain rfl : S = y := by omega
                obtain rfl : M = u := by omega
                clear hr hO hn hs1 hs2 hs3 hs4 hs5 hy hu hlt4
                go_wp2_with fail
                go_roundw
                case rel => exact ⟨i + 1, by omega, by go_num, HN⟩
                case measure => simp [intOf]; omega
        · obtain rfl : i = N2 := by omega
          have hO : Below w0.heap.size w0 wr := by
            obtain ⟨st, n, r, hr, hO, -⟩ := hrel.out
            exact hO.below
          clear hrel
          go_wp2_with fail
          go_ret
          exact ⟨rfl, hO⟩
end
end Go.Proofs.Ytlnokijfmkldkaa
