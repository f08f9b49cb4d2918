/- The statements of layer 2 without the document's answer: the walks (what was set is got; a counter that is filled). -/
import Derived.Test.YtfjnimlmedmdhaaNibLaws2
namespace Go.Proofs.Ytfjnimlmedmdhaa
open Go.RowKit NibPure Go.Sep
/-- a word, counter by counter -/
def cp (x : Nat) : Nat → Nat
  | 0 => 0
  | k + 1 => setN (cp x k) k (getN x k)
theorem cp_lt (x : Nat) : ∀ k, cp x k < 18446744073709551616
  | 0 => by rw [cp]; omega
  | k + 1 => setN_lt _ (cp_lt x k) _ _
theorem cp_dg (x : Nat) : ∀ m, m ≤ 16 → ∀ k, k < 16 → dg (cp x m) k = if k < m then dg x k else 0
  | 0, _, k, _ => by rw [cp, dg_zero, if_neg (by omega)]
  | m + 1, hm, k, hk => by
    have hg := dg_lt x m
    rw [cp, setN_in _ _ _ (by omega), getN_in _ _ (by omega), show (min (max ((dg x m : Nat) : Int) 0) 15).toNat = dg x m by omega, dg_st _ _ _ hg, cp_dg x m (by omega) k hk]
    by_cases e : k = m
    · rw [if_pos e, if_pos (by omega), e]
    · rw [if_neg e]
      by_cases h : k < m
      · rw [if_pos h, if_pos (by omega)]
      · rw [if_neg h, if_neg (by omega)]
theorem cp_all (x : Nat) (hx : x < 18446744073709551616) : cp x 16 = x :=
  dg_ext 16 (cp_lt x 16) hx fun k hk => by rw [cp_dg x 16 (by omega) k hk, if_pos hk]
theorem set_set (x : Nat) (hx : x < 18446744073709551616) (i : Nat) (hi : i < 16) (a b : Int) : setN (setN x i a) i b = setN x i b := by
  refine dg_ext 16 (setN_lt _ (setN_lt x hx _ _) _ _) (setN_lt x hx _ _) fun k hk => ?_
  rw [setN_in _ _ _ hi, setN_in _ _ _ hi, setN_in _ _ _ hi, dg_st _ _ _ (by omega), dg_st _ _ _ (by omega), dg_st _ _ _ (by omega)]
  split <;> rfl
theorem set_own (x : Nat) (hx : x < 18446744073709551616) (i : Nat) (hi : i < 16) : setN x i (getN x i) = x := by
  have hg := dg_lt x i
  refine dg_ext 16 (setN_lt x hx _ _) hx fun k hk => ?_
  rw [setN_in _ _ _ hi, getN_in _ _ hi, show (min (max ((dg x i : Nat) : Int) 0) 15).toNat = dg x i by omega, dg_st _ _ _ hg]
  split
  · rename_i h; rw [h]
  · rfl
set_option maxHeartbeats 3200000 in
theorem sets_walk (x : Nat) (hx : x < 18446744073709551616) (i a b : Int) : TellsB 7 #[.int .u64 x, .int .i64 i, .int .i64 a, .int .i64 b] (.bool true) := by
  intro w
  by_cases hg : 0 ≤ i ∧ i ≤ 15 ∧ 0 ≤ a ∧ a ≤ 15 ∧ 0 ≤ b ∧ b ≤ 15
  · obtain ⟨h1, h2, h3, h4, h5, h6⟩ := hg
    obtain ⟨j, rfl⟩ : ∃ j : Nat, i = j := ⟨i.toNat, by omega⟩
    have hj : j < 16 := by omega
    have c1 := set_any x hx j a
    have l1 := setN_lt x hx j a
    have c2 := get_any _ l1 j
    have e2 := getN_set x j a j hj
    rw [if_pos rfl] at e2
    rw [e2, show (((min (max a 0) 15).toNat : Nat) : Int) = a by omega] at c2
    have c3 := set_any _ l1 j b
    rw [set_set x hx j hj] at c3
    have c4 := set_any x hx j b
    have c5 := get_any x hx j
    have c6 := set_any _ l1 j (getN x j)
    rw [set_set x hx j hj, set_own x hx j hj] at c6
    have cg := fun k : Nat => get_any x hx k
    have cs : ∀ k : Nat, TellsB 14 #[.int .u64 (cp x k), .int .i64 k, .int .i64 (getN x k)] (.int .u64 (cp x (k + 1))) := fun k => set_any (cp x k) (cp_lt x k) k (getN x k)
    clear e2
    have d1 : decide (15 < (j : Int)) = false := decide_eq_false (by omega)
    have d2 : decide (15 < a) = false := decide_eq_false (by omega)
    have d3 : decide (15 < b) = false := decide_eq_false (by omega)
    have d4 : decide ((j : Int) < 0) = false := decide_eq_false (by omega)
    have d5 : decide (a < 0) = false := decide_eq_false (by omega)
    have d6 : decide (b < 0) = false := decide_eq_false (by omega)
    clear h1 h2 h3 h4 h5 h6
    generalize setN x j a = xa at *
    generalize setN x j b = xb at *
    generalize hgx : getN x (j : Int) = g at *
    clear hgx
    go_enter Try.func7, Try.ntmps7
    go_wp2_with fail
    go_at_call 9
    refine (small_calls _).mono ?_
    rintro e w1 ⟨rfl, hb1⟩
    go_wp2_with fail
    go_at_call 14
    refine (c1 _).mono ?_
    rintro e w2 ⟨rfl, hb2⟩
    have hb := hb1.trans (hb2.mono hb1.size)
    clear hb1 hb2
    go_wp2_with fail
    go_loopw [11, 12] (fun x11 x12 wr => ∃ k : Nat, k ≤ 16 ∧ x12 = .int .i64 k ∧ x11 = .int .u64 (cp x k) ∧ Below w.heap.size w wr) (fun _ x12 _ => 16 - (intOf x12).toNat)
    case atStart => exact ⟨0, by omega, rfl, rfl, hb⟩
    case round =>
      clear hb
      obtain ⟨k, hk, rfl, rfl, hb⟩ := hrel
      by_cases hlt : k < 16
      · have cg := cg k
        have cs := cs k
        generalize getN x (k : Int) = g at *
        clear c1 c2 c3 c4 c5 c6
        go_wp2_with fail
        go_at_call 12
        refine (cg _).mono ?_
        rintro e w3 ⟨rfl, rfl⟩
        go_wp2_with fail
        go_at_call 14
        refine (cs _).mono ?_
        rintro e w3 ⟨rfl, hb3⟩
        go_wp2_with fail
        go_roundw
        case rel => exact ⟨k + 1, by omega, by go_num, rfl, hb.trans (hb3.mono hb.size)⟩
        case measure => simp [intOf]; omega
      · obtain rfl : k = 16 := by omega
        rw [cp_all x hx]
        clear cg cs
        go_wp2_with fail
        go_at_call 12
        refine (c2 _).mono ?_
        rintro e w3 ⟨rfl, rfl⟩
        go_wp2_with fail
        go_at_call 14
        refine (c3 _).mono ?_
        rintro e w3 ⟨rfl, hb3⟩
        go_wp2_with fail
        go_at_call 14
        refine (c4 _).mono ?_
        rintro e w4 ⟨rfl, hb4⟩
        go_wp2_with fail
        go_at_call 12
        refine (c5 _).mono ?_
        rintro e w5 ⟨rfl, rfl⟩
        go_wp2_with fail
        go_at_call 14
        refine (c6 _).mono ?_
        rintro e w5 ⟨rfl, hb5⟩
        go_wp2_with fail
        go_ret
        have m1 := hb.trans (hb3.mono hb.size)
        have m2 := m1.trans (hb4.mono m1.size)
        exact ⟨rfl, m2.trans (hb5.mono m2.size)⟩
  · have hcase : i < 0 ∨ (0 ≤ i ∧ 15 < i) ∨ (0 ≤ i ∧ i ≤ 15 ∧ a < 0) ∨ (0 ≤ i ∧ i ≤ 15 ∧ 0 ≤ a ∧ 15 < a) ∨ (0 ≤ i ∧ i ≤ 15 ∧ 0 ≤ a ∧ a ≤ 15 ∧ b < 0) ∨ (0 ≤ i ∧ i ≤ 15 ∧ 0 ≤ a ∧ a ≤ 15 ∧ 0 ≤ b ∧ 15 < b) := by omega
    clear hg hx
    have hor : (decide (i < 0) || decide (15 < i) || decide (a < 0) || decide (15 < a) || decide (b < 0) || decide (15 < b)) = true := by
      simp only [Bool.or_eq_true, decide_eq_true_eq]; omega
    clear hcase
    generalize hq1 : decide (i < 0) = q1 at *
    generalize hq2 : decide (15 < i) = q2 at *
    generalize hq3 : decide (a < 0) = q3 at *
    generalize hq4 : decide (15 < a) = q4 at *
    generalize hq5 : decide (b < 0) = q5 at *
    generalize hq6 : decide (15 < b) = q6 at *
    cases q1 <;> (try cases q2) <;> (try cases q3) <;> (try cases q4) <;> (try cases q5) <;> (try cases q6) <;> first | (exfalso; revert hor; decide) | clear hor
    all_goals
      go_enter Try.func7, Try.ntmps7
      go_wp2_with fail
      go_at_call 9
      refine (small_calls _).mono ?_
      rintro e w1 ⟨rfl, hb1⟩
      go_wp2_with fail
      go_ret
      exact ⟨rfl, hb1⟩
theorem sm_mod (x y i : Nat) (d : Nat) (hd : dg y i = dg x i + d) (he : ∀ k, k ≠ i → dg y k = dg x k) : ∀ m, sm y m = sm x m + if i < m then d else 0
  | 0 => rfl
  | m + 1 => by
    rw [sm, sm, sm_mod x y i d hd he m]
    by_cases e : m = i
    · subst e; rw [hd, if_neg (by omega), if_pos (by omega)]; omega
    · rw [he m e]
      by_cases h : i < m
      · rw [if_pos h, if_pos (by omega)]; omega
      · rw [if_neg h, if_neg (by omega)]; omega
theorem sm_st (x i : Nat) (hi : i < 16) (hd : dg x i < 15) : sm (st x i (dg x i + 1)) 16 = sm x 16 + 1 := by
  have h := sm_mod x (st x i (dg x i + 1)) i 1 (dg_st_self x i (by omega)) (fun k hk => dg_st_ne x i k (by omega) hk) 16
  rw [if_pos hi] at h
  exact h
set_option maxHeartbeats 3200000 in
theorem fills_walk (x : Nat) (hx : x < 18446744073709551616) (i : Int) : TellsB 8 #[.int .u64 x, .int .i64 i] (.bool true) := by
  intro w
  rcases in_or_out i with ⟨j, rfl, hj⟩ | h
  · have d1 : decide (15 < (j : Int)) = false := decide_eq_false (by omega)
    have cg := get_in x hx j hj
    have hgl := dg_lt x j
    have hsl := sm_le x 16
    have csum := sum_calls x hx
    generalize hG : dg x j = G at *
    generalize hS : sm x 16 = S at *
    have HG := Lib.hid hG
    have HS := Lib.hid hS
    clear hG hS
    go_enter Try.func8, Try.ntmps8
    go_wp2_with fail
    go_at_call 9
    refine (small_calls _).mono ?_
    rintro e w1 ⟨rfl, hb1⟩
    go_wp2_with fail
    go_at_call 12
    refine (cg _).mono ?_
    rintro e w3 ⟨rfl, rfl⟩
    go_wp2_with fail
    go_at_call 20
    refine (csum _).mono ?_
    rintro e w2 ⟨rfl, hb2⟩
    have hb := hb1.trans (hb2.mono hb1.size)
    clear hb1 hb2
    go_wp2_with fail
    go_loopw [0, 8] (fun x0 x8 wr => ∃ k y : Nat, k ≤ 15 ∧ G ≤ k ∧ y < 18446744073709551616 ∧ x8 = .int .i64 k ∧ x0 = .int .u64 y ∧ Hid (dg y j = k ∧ sm y 16 = S + (k - G)) ∧ Below w.heap.size w wr) (fun _ x8 _ => 15 - (intOf x8).toNat)
    case atStart => exact ⟨G, x, by omega, Nat.le_refl _, hx, rfl, rfl, Lib.hid ⟨HG.out, by rw [HS.out]; omega⟩, hb⟩
    case round =>
      clear hb cg csum HG HS hx
      obtain ⟨k, y, hk, hGk, hy, rfl, rfl, hdy, hb⟩ := hrel
      obtain ⟨hd, hs⟩ := hdy.out
      clear hdy
      by_cases hlt : k < 15
      · have ci := inc_in y hy j hj (by omega)
        have l2 := st_lt (m := 16) hy hj (show dg y j + 1 < 16 by omega)
        have cg2 := get_in (st y j (dg y j + 1)) l2 j hj
        have cs2 := sum_calls (st y j (dg y j + 1)) l2
        have e1 := dg_st_self y j (show dg y j + 1 < 16 by omega)
        have e2 := sm_st y j hj (by omega)
        rw [e1] at cg2
        rw [e2, hs] at cs2
        rw [hd] at ci cg2 cs2 e1 e2 l2
        rw [hs] at e2
        clear hs hd hy
        generalize st y j (k + 1) = z at *
        have HR : Hid (dg z j = k + 1 ∧ sm z 16 = S + (k + 1 - G)) := Lib.hid ⟨e1, by omega⟩
        have l3 : z < 18446744073709551616 := l2
        clear e1 e2 l2
        rw [show ((k + 1 : Nat) : Int) = (k : Int) + 1 by omega] at cg2
        have es : ((S + (k - G) + 1 : Nat) : Int) = (S : Int) + (k : Int) + 1 - (G : Int) := by omega
        rw [es] at cs2
        clear es
        go_wp2_with fail
        go_at_call 10
        refine (ci _).mono ?_
        rintro e w3 ⟨rfl, rfl⟩
        go_wp2_with fail
        go_at_call 12
        refine (cg2 _).mono ?_
        rintro e w3 ⟨rfl, rfl⟩
        go_wp2_with fail
        go_at_call 20
        refine (cs2 _).mono ?_
        rintro e w3 ⟨rfl, hb3⟩
        go_wp2_with fail
        go_roundw
        case rel => exact ⟨k + 1, z, by omega, by omega, l3, by go_num, rfl, HR, hb.trans (hb3.mono hb.size)⟩
        case measure => simp [intOf]; omega
      · obtain rfl : k = 15 := by omega
        have ci := inc_full y hy j hj hd
        have cg2 := get_in y hy j hj
        rw [hd] at cg2
        clear hs hd
        go_wp2_with fail
        go_at_call 10
        refine (ci _).mono ?_
        rintro e w3 ⟨rfl, rfl⟩
        go_wp2_with fail
        go_at_call 12
        refine (cg2 _).mono ?_
        rintro e w3 ⟨rfl, rfl⟩
        go_wp2_with fail
        go_ret
        exact ⟨rfl, hb⟩
  · rcases h with h | ⟨h1, h2⟩
    · go_enter Try.func8, Try.ntmps8
      go_wp2_with fail
      go_at_call 9
      refine (small_calls _).mono ?_
      rintro e w1 ⟨rfl, hb1⟩
      go_wp2_with fail
      go_ret
      exact ⟨rfl, hb1⟩
    · have hd16 : decide (15 < i) = true := decide_eq_true (by omega)
      go_enter Try.func8, Try.ntmps8
      go_wp2_with fail
      go_at_call 9
      refine (small_calls _).mono ?_
      rintro e w1 ⟨rfl, hb1⟩
      go_wp2_with fail
      go_ret
      exact ⟨rfl, hb1⟩
end Go.Proofs.Ytfjnimlmedmdhaa
