/- The statements of layer 2 without the document's answer: the walks. -/
import Derived.Test.YtfjnimlmedmdhaaNibSmall
namespace Go.Proofs.Ytfjnimlmedmdhaa
open Go.RowKit NibPure Go.Sep
theorem getN_inc (x : Nat) (i : Int) (k : Nat) (hk : k < 16) : getN (incN x i) k = if (k : Int) = i ∧ incB x i = true then getN x k + 1 else getN x k := by
  rcases in_or_out i with ⟨j, rfl, hj⟩ | h
  · by_cases hd : dg x j < 15
    · rw [incN_more x j hj hd, incB_in x j hj, decide_eq_true hd, getN_in _ _ hk, getN_in _ _ hk, dg_st _ _ _ (by omega)]
      by_cases e : k = j
      · rw [if_pos e, if_pos ⟨by omega, rfl⟩, e]
      · rw [if_neg e, if_neg (fun h => e (by omega))]
    · rw [incN_full x j hj (by have := dg_lt x j; omega), incB_in x j hj, decide_eq_false hd, if_neg (fun h => by simp at h)]
  · rw [incN_out x h, incB_out x h, if_neg (fun h => by simp at h)]
theorem getN_set (x : Nat) (i n : Int) (k : Nat) (hk : k < 16) : getN (setN x i n) k = if (k : Int) = i then (min (max n 0) 15).toNat else getN x k := by
  rcases in_or_out i with ⟨j, rfl, hj⟩ | h
  · rw [setN_in x j n hj, getN_in _ _ hk, getN_in _ _ hk, dg_st _ _ _ (by omega)]
    by_cases e : k = j
    · rw [if_pos e, if_pos (by omega)]
    · rw [if_neg e, if_neg (fun h => e (by omega))]
  · rw [setN_out x n h, if_neg (by omega)]
theorem bne_self (z : Int) : (z != z) = false := by simp
set_option maxHeartbeats 3200000 in
theorem alone_walk (x : Nat) (hx : x < 18446744073709551616) (i n : Int) : TellsB 5 #[.int .u64 x, .int .i64 i, .int .i64 n] (.bool true) := by
  intro w
  have c1 := inc_any x hx i
  have c2 := set_any x hx i n
  have cg := fun k : Nat => get_any x hx k
  have cgi := get_any x hx i
  have ca := fun k : Nat => get_any (incN x i) (incN_lt x hx i) k
  have cb := fun k : Nat => get_any (setN x i n) (setN_lt x hx i n) k
  have fa := getN_inc x i
  have fb := getN_set x i n
  have hend : (∃ j : Nat, i = j ∧ j < 16 ∧ incB x i = decide ((getN x i : Int) < 15)) ∨ ((i < 0 ∨ 0 ≤ i ∧ 16 ≤ i) ∧ incB x i = false ∧ setN x i n = x) := by
    rcases in_or_out i with ⟨j, rfl, hj⟩ | h
    · refine .inl ⟨j, rfl, hj, ?_⟩
      rw [incB_in x j hj, getN_in x j hj]
      exact decide_eq_decide.2 (by omega)
    · exact .inr ⟨h, incB_out x h, setN_out x n h⟩
  have HA := Lib.hid fa
  have HB := Lib.hid fb
  have HE := Lib.hid hend
  clear fa fb hend
  have hl := fun k : Nat => getN_lt x k
  generalize incN x i = a at *
  generalize setN x i n = b at *
  generalize incB x i = is at *
  go_enter Try.func5, Try.ntmps5
  go_wp2_with fail
  go_at_call 9
  refine (small_calls _).mono ?_
  rintro e w1 ⟨rfl, hb1⟩
  go_wp2_with fail
  go_at_call 10
  refine (c1 _).mono ?_
  rintro e w2 ⟨rfl, rfl⟩
  go_wp2_with fail
  go_at_call 14
  refine (c2 _).mono ?_
  rintro e w2 ⟨rfl, hb2⟩
  have hb := hb1.trans (hb2.mono hb1.size)
  clear hb1 hb2
  go_wp2_with fail
  go_loop [11] (fun x11 => ∃ k : Nat, k ≤ 16 ∧ x11 = .int .i64 k) (fun x11 => 16 - (intOf x11).toNat)
  case atStart => exact ⟨0, by omega, rfl⟩
  case round =>
    obtain ⟨k, hk, rfl⟩ := hrel
    by_cases hlt : k < 16
    · have fa := HA.out k hlt
      have fb := HB.out k hlt
      have cg := cg k
      have ca := ca k
      have cb := cb k
      have hl := hl k
      by_cases hki : (k : Int) = i
      · have e1 : ((k : Int) == i) = true := by simpa using hki
        have e2 : ((k : Int) != i) = false := by simpa using hki
        rw [if_pos hki] at fb
        rw [fb] at cb
        clear hki HA HB HE cgi
        cases is with
        | false =>
          rw [if_neg (fun h => by simp at h)] at fa
          rw [fa] at ca
          generalize getN x k = g at *
          clear fa fb c1 c2
          by_cases hn1 : n < 0
          · rw [show (min (max n 0) 15).toNat = 0 by omega] at cb
            go_wp2_with fail
            go_at_call 12
            refine (cg _).mono ?_
            rintro e w3 ⟨rfl, rfl⟩
            go_wp2_with fail
            go_at_call 12
            refine (ca _).mono ?_
            rintro e w3 ⟨rfl, rfl⟩
            go_wp2_with fail
            go_at_call 12
            refine (cb _).mono ?_
            rintro e w3 ⟨rfl, rfl⟩
            go_wp2_with fail
            go_round
            case rel => exact ⟨k + 1, by omega, by go_num⟩
            case measure => simp [intOf]; omega
          · by_cases hn2 : 15 < n
            · rw [show (min (max n 0) 15).toNat = 15 by omega] at cb
              go_wp2_with fail
              go_at_call 12
              refine (cg _).mono ?_
              rintro e w3 ⟨rfl, rfl⟩
              go_wp2_with fail
              go_at_call 12
              refine (ca _).mono ?_
              rintro e w3 ⟨rfl, rfl⟩
              go_wp2_with fail
              go_at_call 12
              refine (cb _).mono ?_
              rintro e w3 ⟨rfl, rfl⟩
              go_wp2_with fail
              go_round
              case rel => exact ⟨k + 1, by omega, by go_num⟩
              case measure => simp [intOf]; omega
            · rw [show (((min (max n 0) 15).toNat : Nat) : Int) = n by omega] at cb
              go_wp2_with fail
              go_at_call 12
              refine (cg _).mono ?_
              rintro e w3 ⟨rfl, rfl⟩
              go_wp2_with fail
              go_at_call 12
              refine (ca _).mono ?_
              rintro e w3 ⟨rfl, rfl⟩
              go_wp2_with fail
              go_at_call 12
              refine (cb _).mono ?_
              rintro e w3 ⟨rfl, rfl⟩
              go_wp2_with fail
              go_round
              case rel => exact ⟨k + 1, by omega, by go_num⟩
              case measure => simp [intOf]; omega
        | true =>
          rw [if_pos ⟨by simpa using e1, rfl⟩] at fa
          rw [fa] at ca
          generalize getN x k = g at *
          rw [show ((g + 1 : Nat) : Int) = (g : Int) + 1 by omega] at ca
          clear fa fb c1 c2
          by_cases hn1 : n < 0
          · rw [show (min (max n 0) 15).toNat = 0 by omega] at cb
            go_wp2_with fail
            go_at_call 12
            refine (cg _).mono ?_
            rintro e w3 ⟨rfl, rfl⟩
            go_wp2_with fail
            go_at_call 12
            refine (ca _).mono ?_
            rintro e w3 ⟨rfl, rfl⟩
            go_wp2_with fail
            go_at_call 12
            refine (cb _).mono ?_
            rintro e w3 ⟨rfl, rfl⟩
            go_wp2_with fail
            go_round
            case rel => exact ⟨k + 1, by omega, by go_num⟩
            case measure => simp [intOf]; omega
          · by_cases hn2 : 15 < n
            · rw [show (min (max n 0) 15).toNat = 15 by omega] at cb
              go_wp2_with fail
              go_at_call 12
              refine (cg _).mono ?_
              rintro e w3 ⟨rfl, rfl⟩
              go_wp2_with fail
              go_at_call 12
              refine (ca _).mono ?_
              rintro e w3 ⟨rfl, rfl⟩
              go_wp2_with fail
              go_at_call 12
              refine (cb _).mono ?_
              rintro e w3 ⟨rfl, rfl⟩
              go_wp2_with fail
              go_round
              case rel => exact ⟨k + 1, by omega, by go_num⟩
              case measure => simp [intOf]; omega
            · rw [show (((min (max n 0) 15).toNat : Nat) : Int) = n by omega] at cb
              go_wp2_with fail
              go_at_call 12
              refine (cg _).mono ?_
              rintro e w3 ⟨rfl, rfl⟩
              go_wp2_with fail
              go_at_call 12
              refine (ca _).mono ?_
              rintro e w3 ⟨rfl, rfl⟩
              go_wp2_with fail
              go_at_call 12
              refine (cb _).mono ?_
              rintro e w3 ⟨rfl, rfl⟩
              go_wp2_with fail
              go_round
              case rel => exact ⟨k + 1, by omega, by go_num⟩
              case measure => simp [intOf]; omega
      · have e1 : ((k : Int) == i) = false := by simpa using hki
        have e2 : ((k : Int) != i) = true := by simpa using hki
        rw [if_neg hki] at fb
        rw [if_neg (fun h => hki h.1)] at fa
        rw [fb] at cb
        rw [fa] at ca
        generalize getN x k = g at *
        clear fa fb c1 c2 hki HA HB HE cgi
        go_wp2_with fail
        go_at_call 12
        refine (cg _).mono ?_
        rintro e w3 ⟨rfl, rfl⟩
        go_wp2_with fail
        go_at_call 12
        refine (ca _).mono ?_
        rintro e w3 ⟨rfl, rfl⟩
        go_wp2_with fail
        go_at_call 12
        refine (cb _).mono ?_
        rintro e w3 ⟨rfl, rfl⟩
        go_wp2_with fail
        go_round
        case rel => exact ⟨k + 1, by omega, by go_num⟩
        case measure => simp [intOf]; omega
    · obtain rfl : k = 16 := by omega
      clear HA HB cg ca cb hl c1 c2
      rcases HE.out with ⟨j, rfl, hj, he⟩ | ⟨h, rfl, rfl⟩
      · clear HE
        subst he
        have hd16 : decide ((j : Int) < 16) = true := decide_eq_true (by omega)
        generalize getN x j = g at *
        go_wp2_with fail
        go_at_call 12
        refine (cgi _).mono ?_
        rintro e w3 ⟨rfl, rfl⟩
        go_wp2_with fail
        go_ret
        exact ⟨rfl, hb⟩
      · clear HE
        rcases h with h | ⟨h1, h2⟩
        · go_wp2_with fail
          go_ret
          exact ⟨rfl, hb⟩
        · have hd16 : decide (i < 16) = false := decide_eq_false (by omega)
          go_wp2_with fail
          go_ret
          exact ⟨rfl, hb⟩
theorem sm_half (x : Nat) : ∀ k, k ≤ 16 → 2 * sm (halfN x) k + od x k = sm x k
  | 0, _ => rfl
  | k + 1, hk => by
    have ih := sm_half x k (by omega)
    have := halfN_dg x k (by omega)
    rw [sm, sm, od, this]
    omega
theorem half4 (x : Nat) : halfN (halfN (halfN (halfN x))) = 0 := by
  refine dg_ext 16 (halfN_lt _) (by omega) fun k hk => ?_
  rw [halfN_dg _ k hk, halfN_dg _ k hk, halfN_dg _ k hk, halfN_dg _ k hk, dg_zero]
  have := dg_lt x k
  omega
set_option maxHeartbeats 1600000 in
theorem ages_walk (x : Nat) (hx : x < 18446744073709551616) : TellsB 6 #[.int .u64 x] (.bool true) := by
  intro w
  have c1 := half_any x hx
  have c2 := fun w => sum_calls (halfN x) (halfN_lt x) w
  have c3 := fun w => sum_calls x hx w
  have c4 := odd_calls x hx
  have c5 := half_any (halfN x) (halfN_lt x)
  have c6 := half_any (halfN (halfN x)) (halfN_lt _)
  have c7 := half_any (halfN (halfN (halfN x))) (halfN_lt _)
  rw [half4] at c7
  have h1 := sm_half x 16 (by omega)
  have h2 := od_le x 16
  have h3 := sm_le x 16
  generalize halfN (halfN (halfN x)) = y3 at *
  generalize halfN (halfN x) = y2 at *
  generalize halfN x = y1 at *
  generalize sm x 16 = s at *
  generalize sm y1 16 = t at *
  generalize od x 16 = o at *
  have he : (2 * (t : Int) == (s : Int) - (o : Int)) = true := by
    rw [beq_iff_eq]; omega
  have hd1 : decide ((o : Int) ≤ 16) = true := decide_eq_true (by omega)
  have hd2 : decide ((s : Int) ≤ 240) = true := decide_eq_true (by omega)
  have hb0 : (0 : Int) ≤ (s : Int) - (o : Int) := by omega
  have hb1' : (s : Int) ≤ 240 := by omega
  have hb2' : (o : Int) ≤ 16 := by omega
  have hb3' : (t : Int) ≤ 240 := by omega
  clear h1 h2 h3
  go_enter Try.func6, Try.ntmps6
  go_wp2_with fail
  go_at_call 9
  refine (small_calls _).mono ?_
  rintro e w1 ⟨rfl, hb1⟩
  go_wp2_with fail
  go_at_call 18
  refine (c1 _).mono ?_
  rintro e w2 ⟨rfl, rfl⟩
  go_wp2_with fail
  go_at_call 20
  refine (c2 _).mono ?_
  rintro e w2 ⟨rfl, hb2⟩
  go_wp2_with fail
  go_at_call 20
  refine (c3 _).mono ?_
  rintro e w3 ⟨rfl, hb3⟩
  go_wp2_with fail
  go_at_call 22
  refine (c4 _).mono ?_
  rintro e w4 ⟨rfl, rfl⟩
  go_wp2_with fail
  go_at_call 18
  refine (c5 _).mono ?_
  rintro e w4 ⟨rfl, rfl⟩
  go_wp2_with fail
  go_at_call 18
  refine (c6 _).mono ?_
  rintro e w4 ⟨rfl, rfl⟩
  go_wp2_with fail
  go_at_call 18
  refine (c7 _).mono ?_
  rintro e w4 ⟨rfl, rfl⟩
  go_wp2_with fail
  go_at_call 22
  refine (c4 _).mono ?_
  rintro e w4 ⟨rfl, rfl⟩
  go_wp2_with fail
  go_at_call 22
  refine (c4 _).mono ?_
  rintro e w4 ⟨rfl, rfl⟩
  go_wp2_with fail
  go_at_call 20
  refine (c3 _).mono ?_
  rintro e w4 ⟨rfl, hb4⟩
  go_wp2_with fail
  go_ret
  have m1 := hb1.trans (hb2.mono hb1.size)
  have m2 := m1.trans (hb3.mono m1.size)
  exact ⟨rfl, m2.trans (hb4.mono m2.size)⟩
end Go.Proofs.Ytfjnimlmedmdhaa
