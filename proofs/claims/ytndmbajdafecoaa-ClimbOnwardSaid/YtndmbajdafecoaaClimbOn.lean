/- The statements of layer 10: ClimbOnward and ClimbSteady. -/
import Derived.Test.YtndmbajdafecoaaClimbLaws
namespace Go.Proofs.Ytndmbajdafecoaa
open Go.RowKit Go.Sep
theorem chain8 : ∀ q1 q2 q3 q4 q5 q6 q7 q8 : Bool, (q1 || q2 || q3 || q4 || q5 || q6 || q7 || q8) = true → q1 = true ∨ (q1 = false ∧ (q2 = true ∨ (q2 = false ∧ (q3 = true ∨ (q3 = false ∧ (q4 = true ∨ (q4 = false ∧ (q5 = true ∨ (q5 = false ∧ (q6 = true ∨ (q6 = false ∧ (q7 = true ∨ (q7 = false ∧ q8 = true))))))))))))) := by
  intro q1 q2 q3 q4 q5 q6 q7 q8 h
  rcases Bool.eq_false_or_eq_true q1 with e | e
  · exact .inl e
  · refine .inr ⟨e, ?_⟩
    subst e
    rcases Bool.eq_false_or_eq_true q2 with e | e
    · exact .inl e
    · refine .inr ⟨e, ?_⟩
      subst e
      rcases Bool.eq_false_or_eq_true q3 with e | e
      · exact .inl e
      · refine .inr ⟨e, ?_⟩
        subst e
        rcases Bool.eq_false_or_eq_true q4 with e | e
        · exact .inl e
        · refine .inr ⟨e, ?_⟩
          subst e
          rcases Bool.eq_false_or_eq_true q5 with e | e
          · exact .inl e
          · refine .inr ⟨e, ?_⟩
            subst e
            rcases Bool.eq_false_or_eq_true q6 with e | e
            · exact .inl e
            · refine .inr ⟨e, ?_⟩
              subst e
              rcases Bool.eq_false_or_eq_true q7 with e | e
              · exact .inl e
              · refine .inr ⟨e, ?_⟩
                subst e
                simpa using h
set_option maxHeartbeats 3200000 in
theorem onward_out (h m l s cap : Int) (hq : (decide (h < 0) || decide (m < 0) || decide (1099511627776 < h) || decide (1099511627776 < m) || decide (l < 0) || decide (65536 < l) || decide (s < -4611686018427387903) || decide (4611686018427387903 < s)) = true) :
    TellsB 5 #[.agg (climbC h m l s), .int .i64 cap] (.bool true) := by
  intro w0
  have HO := Lib.hid ((Owned.nil w0).alloc (.cells #[.int .i64 h, .int .i64 m, .int .i64 l, .int .i64 s] 23))
  unfold climbC at *
  rcases chain8 _ _ _ _ _ _ _ _ hq with k1 | ⟨k1, k2 | ⟨k2, k3 | ⟨k3, k4 | ⟨k4, k5 | ⟨k5, k6 | ⟨k6, k7 | ⟨k7, k8⟩⟩⟩⟩⟩⟩⟩
  all_goals
    clear hq
    go_enter Try.func5, Try.ntmps5
    go_wp2_with fail
    go_at_call 8
    refine (small_calls _).mono ?_
    rintro e w1 ⟨rfl, hb1⟩
    have HO1 := Lib.hid (HO.out.under hb1)
    obtain ⟨b0, b1, b2, b3, _, _, _, _⟩ := climb_facts (a := h) (b := m) (c := l) (d := s) HO1.out
    go_wp2_with fail
    go_ret
    exact ⟨rfl, HO1.out.below⟩
set_option maxHeartbeats 6400000 in
theorem onward_in (h m l s cap : Int) (h0 : 0 ≤ h) (h1 : h ≤ 1099511627776) (m0 : 0 ≤ m) (m1 : m ≤ 1099511627776) (l0 : 0 ≤ l) (l1 : l ≤ 65536) (s0 : -4611686018427387903 ≤ s) (s1 : s ≤ 4611686018427387903) :
    TellsB 5 #[.agg (climbC h m l s), .int .i64 cap] (.bool true) := by
  intro w0
  have HO := Lib.hid ((Owned.nil w0).alloc (.cells #[.int .i64 h, .int .i64 m, .int .i64 l, .int .i64 s] 23))
  have c1 := fun w => turn_calls h m l s cap w
  have c2 := fun w => rate_calls h m l s w
  have hf : farN h m l s = if rateN h m < l then -s else s := by unfold farN; rw [fitL_id l0 l1, fitS_id s0 s1]
  have hfi := firstN_in cap
  have hk := keptN_in (farN h m l s)
  have hst : (farN h m l s > 0 → 0 ≤ stepN h m l s cap) ∧ (farN h m l s < 0 → stepN h m l s cap ≤ 0) := by
    unfold stepN
    split
    · split <;> omega
    · omega
  obtain ⟨r0, r1⟩ := rateN_in h m
  have k1 : decide (h < 0) = false := decide_eq_false (by omega)
  have k2 : decide (m < 0) = false := decide_eq_false (by omega)
  have k3 : decide (1099511627776 < h) = false := decide_eq_false (by omega)
  have k4 : decide (1099511627776 < m) = false := decide_eq_false (by omega)
  have k5 : decide (l < 0) = false := decide_eq_false (by omega)
  have k6 : decide (65536 < l) = false := decide_eq_false (by omega)
  have k7 : decide (s < -4611686018427387903) = false := decide_eq_false (by omega)
  have k8 : decide (4611686018427387903 < s) = false := decide_eq_false (by omega)
  generalize stepN h m l s cap = st at *
  generalize farN h m l s = f at *
  generalize rateN h m = r at *
  have hcase : (decide (r < l) = true ∧ (f == -s) = true) ∨ (decide (r < l) = false ∧ (f == s) = true) := by
    by_cases hr : r < l
    · rw [if_pos hr] at hf; exact .inl ⟨decide_eq_true hr, by rw [beq_iff_eq]; exact hf⟩
    · rw [if_neg hr] at hf; exact .inr ⟨decide_eq_false hr, by rw [beq_iff_eq]; exact hf⟩
  have hsign : (decide (0 < f) = true ∧ decide (0 ≤ st) = true) ∨ (decide (0 < f) = false ∧ decide (f < 0) = true ∧ decide (st ≤ 0) = true) ∨ (decide (0 < f) = false ∧ decide (f < 0) = false ∧ (f == 0) = true) := by
    by_cases hp : 0 < f
    · exact .inl ⟨decide_eq_true hp, decide_eq_true (hst.1 hp)⟩
    · by_cases hn : f < 0
      · exact .inr (.inl ⟨decide_eq_false hp, decide_eq_true hn, decide_eq_true (hst.2 hn)⟩)
      · exact .inr (.inr ⟨decide_eq_false hp, decide_eq_false hn, by rw [beq_iff_eq]; omega⟩)
  clear hst hk hf hfi h0 h1 m0 m1 l0 l1 r0 r1
  unfold climbC at *
  rcases hcase with ⟨j1, j2⟩ | ⟨j1, j2⟩ <;> rcases hsign with ⟨i1, i2⟩ | ⟨i1, i2, i3⟩ | ⟨i1, i2, i3⟩
  all_goals
    go_enter Try.func5, Try.ntmps5
    go_wp2_with fail
    go_at_call 8
    refine (small_calls _).mono ?_
    rintro e w1 ⟨rfl, hb1⟩
    have HO1 := Lib.hid (HO.out.under hb1)
    obtain ⟨b0, b1, b2, b3, _, _, _, _⟩ := climb_facts (a := h) (b := m) (c := l) (d := s) HO1.out
    clear HO
    go_wp2_with (first
      | (go_at_call 9; refine (c1 _).mono ?_; rintro e w2 ⟨rfl, hb2⟩; have HO2 := Lib.hid ((HO1.out.under hb2).alloc (.cells #[.int .i64 0, .int .i64 0, .int .i64 0, .int .i64 0] 23)); clear HO1 b0 b1 b2 b3)
      | (refine store_whole rfl _ _ _ rfl w2.heap.size rfl HO2.out #[.int .i64 0, .int .i64 0, .int .i64 r, .int .i64 st] rfl rfl info_climb (climb_one _ _ _ _) ?_; intro w3 hO3; have HO3 := Lib.hid hO3; clear hO3 HO2)
      | (refine load_whole rfl _ _ rfl w0.heap.size rfl HO3.out.swap _ und_climb rfl info_climb ?_)
      | (go_at_call 15; refine (c2 _).mono ?_; rintro e w4 ⟨rfl, hb4⟩; have HO4 := Lib.hid (HO3.out.under hb4); clear HO3; obtain ⟨a0, a1, a2, a3, _, _, _, _⟩ := climb_facts (a := 0) (b := 0) (c := r) (d := st) HO4.out; obtain ⟨b0, b1, b2, b3, _, _, _, _⟩ := climb_facts (a := h) (b := m) (c := l) (d := s) HO4.out.swap))
    go_ret
    exact ⟨rfl, HO4.out.below⟩
theorem onward_walk (h m l s cap : Int) : TellsB 5 #[.agg (climbC h m l s), .int .i64 cap] (.bool true) := by
  by_cases hq : (decide (h < 0) || decide (m < 0) || decide (1099511627776 < h) || decide (1099511627776 < m) || decide (l < 0) || decide (65536 < l) || decide (s < -4611686018427387903) || decide (4611686018427387903 < s)) = true
  · exact onward_out h m l s cap hq
  · simp only [Bool.or_eq_true, decide_eq_true_eq, not_or] at hq
    exact onward_in h m l s cap (by omega) (by omega) (by omega) (by omega) (by omega) (by omega) (by omega) (by omega)
/-- the steady climb -/
theorem keptN_pos (n : Int) (h : 0 ≤ n) : 0 ≤ keptN n ∧ keptN n ≤ n ∧ (0 < n → keptN n < n) := (keptN_in n).1 h
theorem steady_turn (hits misses l s cap : Int) (h0 : 0 ≤ hits) (h1 : hits ≤ 1000) (m0 : 1 ≤ misses) (m1 : misses ≤ 1000) (hl : l = hits * 65536 / (hits + misses)) (s0 : 0 ≤ s) (s1 : s ≤ 4611686018427387903) :
    rateN hits misses = l ∧ farN hits misses l s = s ∧ stepN hits misses l s cap = keptN s := by
  have hr : rateN hits misses = l := by
    unfold rateN
    rw [fitN_id h0 (by omega), fitN_id (by omega) (by omega), hl]
    split
    · rename_i h; rw [h, Int.zero_mul, Int.zero_ediv]
    · rfl
  obtain ⟨r0, r1⟩ := rateN_in hits misses
  have hf : farN hits misses l s = s := by
    unfold farN
    rw [hr, fitL_id (by omega) (by omega), fitS_id (by omega) s1, if_neg (by omega)]
  refine ⟨hr, hf, ?_⟩
  unfold stepN
  rw [hf, hr, fitL_id (by omega) (by omega), if_neg (by omega)]
def SteadyRel (w0 : World) (g : Nat) (r was : Int) (w : World) : Prop := ∃ a b : Int, Owned w0 w [(g, .cells (climbC a b r was) 23 (0, 0))]
set_option maxHeartbeats 6400000 in
theorem steady_in (cap hits misses turns : Int) (cap0 : 0 ≤ cap) (cap1 : cap ≤ 1048576) (h0 : 0 ≤ hits) (h1 : hits ≤ 1000) (m0 : 1 ≤ misses) (m1 : misses ≤ 1000) (t0 : 1 ≤ turns) (t1 : turns ≤ 300) :
    TellsB 6 #[.int .i64 cap, .int .i64 hits, .int .i64 misses, .int .i64 turns] (.bool true) := by
  intro w0
  obtain ⟨T, rfl⟩ : ∃ T : Nat, turns = T := ⟨turns.toNat, by omega⟩
  have c1 := new_calls cap
  have hfi := firstN_in cap
  have hrange : 0 ≤ hits * 65536 / (hits + misses) ∧ hits * 65536 / (hits + misses) ≤ 65536 := by
    have := steady_turn hits misses _ 0 cap h0 h1 m0 m1 rfl (by omega) (by omega)
    have h2 := rateN_in hits misses
    omega
  obtain ⟨r, hr⟩ : ∃ r, r = hits * 65536 / (hits + misses) := ⟨_, rfl⟩
  have hst : ∀ s, 0 ≤ s → s ≤ 4611686018427387903 → rateN hits misses = r ∧ farN hits misses r s = s ∧ stepN hits misses r s cap = keptN s := fun s s0 s1 => steady_turn hits misses r s cap h0 h1 m0 m1 hr s0 s1
  rw [← hr] at hrange
  have HST := Lib.hid hst
  have HR := Lib.hid hr
  clear hst hr
  have k1 : decide (cap < 0) = false := decide_eq_false (by omega)
  have k2 : decide (1048576 < cap) = false := decide_eq_false (by omega)
  have k3 : decide (hits < 0) = false := decide_eq_false (by omega)
  have k4 : decide (1000 < hits) = false := decide_eq_false (by omega)
  have k5 : decide (misses < 1) = false := decide_eq_false (by omega)
  have k6 : decide (1000 < misses) = false := decide_eq_false (by omega)
  have k7 : decide ((T : Int) < 1) = false := decide_eq_false (by omega)
  have k8 : decide (300 < (T : Int)) = false := decide_eq_false (by omega)
  have hq : (hits + misses == 0) = false := by rw [beq_eq_false_iff_ne]; omega
  generalize firstN cap = fi at *
  unfold climbC at c1
  go_enter Try.func6, Try.ntmps6
  go_wp2_with fail
  go_at_call 8
  refine (small_calls _).mono ?_
  rintro e w1 ⟨rfl, hb1⟩
  go_wp2_with fail
  go_at_call 17
  refine (c1 _).mono ?_
  rintro e w2 ⟨rfl, hb2⟩
  have HO2 := Lib.hid ((((Owned.nil w0).under hb1).under hb2).alloc (.cells #[.int .i64 0, .int .i64 0, .int .i64 0, .int .i64 0] 23))
  go_upto_region 5 with (refine store_whole rfl _ _ _ rfl w2.heap.size rfl HO2.out #[.int .i64 0, .int .i64 0, .int .i64 0, .int .i64 fi] rfl rfl info_climb (climb_one _ _ _ _) ?_; intro w3 hO3; have HO3 := Lib.hid hO3; clear hO3 HO2)
  obtain ⟨b0, b1, b2, b3, f0, f1, f2, f3⟩ := climb_facts (a := 0) (b := 0) (c := 0) (d := fi) HO3.out
  clear hb1 hb2
  have hlt := Owned.lt HO3.out
  have hr := HR.out
  have hr2 := hr.symm
  clear hr
  go_wp2_with fail
  go_loopw [11, 12] (fun x11 x12 wr => ∃ (k : Nat) (was : Int), k ≤ T ∧ x12 = .int .i64 k ∧ x11 = .int .i64 was ∧ 0 ≤ was ∧ was ≤ 4611686018427387903 ∧ Hid (SteadyRel w0 w2.heap.size r was wr)) (fun _ x12 _ => T - (intOf x12).toNat)
  case atStart => exact ⟨0, fi, by omega, rfl, rfl, by omega, by omega, Lib.hid ⟨0, 0, HO3.out.set 2 _⟩⟩
  case round =>
    obtain ⟨k, was, hk, rfl, rfl, ws0, ws1, hrel⟩ := hrel
    obtain ⟨a, b, hO⟩ := hrel.out
    clear hrel b0 b1 b2 b3 f0 f1 f2 f3 hlt HO3 hr2
    by_cases hltk : k < T
    · obtain ⟨e1, e2, e3⟩ := HST.out was ws0 ws1
      have c2 := turn_calls hits misses r was cap
      rw [e1, e2, e3] at c2
      obtain ⟨p0, p1, p2⟩ := keptN_pos was ws0
      clear e1 e2 e3
      have hO' : Owned w0 ((wr.setCell ⟨w2.heap.size, 0, none⟩ (.int .i64 hits)).setCell ⟨w2.heap.size, 1, none⟩ (.int .i64 misses)) [(w2.heap.size, .cells #[.int .i64 hits, .int .i64 misses, .int .i64 r, .int .i64 was] 23 (0, 0))] := (hO.set 0 _).set 1 _
      obtain ⟨b0, b1, _, _, f0, f1, _, _⟩ := climb_facts hO
      have hlt := Owned.lt hO
      have HO' := Lib.hid hO'
      clear hO hO'
      have d1 : decide (was < keptN was) = false := decide_eq_false (by omega)
      have d2 : decide (keptN was < 0) = false := decide_eq_false (by omega)
      have d3 : decide (0 < was) = false ∨ decide (0 < was) = true ∧ (keptN was == was) = false := by
        by_cases h : 0 < was
        · exact .inr ⟨decide_eq_true h, by rw [beq_eq_false_iff_ne]; have := p2 h; omega⟩
        · exact .inl (decide_eq_false h)
      clear p2
      generalize keptN was = kw at *
      unfold climbC at c2
      rcases d3 with d3 | ⟨d3, d4⟩
      all_goals
        go_upto_region 12 with (fail)
        go_wp2_with (first
          | (refine load_whole rfl _ _ rfl w2.heap.size rfl HO'.out _ und_climb rfl info_climb ?_)
          | (go_at_call 9; refine (c2 _).mono ?_; rintro e w4 ⟨rfl, hb4⟩; have HO4 := Lib.hid ((HO'.out.under hb4).alloc (.cells #[.int .i64 0, .int .i64 0, .int .i64 0, .int .i64 0] 23)); clear HO' b0 b1 f0 f1 c2)
          | (refine store_whole rfl _ _ _ rfl w4.heap.size rfl HO4.out #[.int .i64 0, .int .i64 0, .int .i64 r, .int .i64 kw] rfl rfl info_climb (climb_one _ _ _ _) ?_; intro w5 hO5; have HO5 := Lib.hid hO5; clear hO5 HO4; obtain ⟨b0, b1, b2, b3, _, _, _, _⟩ := climb_facts (a := 0) (b := 0) (c := r) (d := kw) HO5.out; obtain ⟨a0, a1, a2, a3, _, _, _, _⟩ := climb_facts (a := hits) (b := misses) (c := r) (d := was) HO5.out.swap)
          | (refine load_whole rfl _ _ rfl w4.heap.size rfl HO5.out _ und_climb rfl info_climb ?_)
          | (refine store_whole rfl _ _ _ rfl w2.heap.size rfl HO5.out.swap #[.int .i64 0, .int .i64 0, .int .i64 r, .int .i64 kw] rfl rfl info_climb (climb_one _ _ _ _) ?_; intro w6 hO6; have HO6 := Lib.hid (hO6.swap.tail); clear hO6 HO5 a0 a1 a2 a3 b0 b1 b2 b3))
        go_roundw
        case rel => exact ⟨k + 1, kw, by omega, by go_num, rfl, by omega, by omega, Lib.hid ⟨0, 0, HO6.out⟩⟩
        case measure => simp [intOf]; omega
    · obtain rfl : k = T := by omega
      have HO := Lib.hid hO
      clear hO HST HR
      go_wp2_with fail
      go_ret
      exact ⟨rfl, HO.out.below⟩
set_option maxHeartbeats 3200000 in
theorem steady_out (cap hits misses turns : Int) (hq : (decide (cap < 0) || decide (1048576 < cap) || decide (hits < 0) || decide (1000 < hits) || decide (misses < 1) || decide (1000 < misses) || decide (turns < 1) || decide (300 < turns)) = true) :
    TellsB 6 #[.int .i64 cap, .int .i64 hits, .int .i64 misses, .int .i64 turns] (.bool true) := by
  intro w0
  rcases chain8 _ _ _ _ _ _ _ _ hq with k1 | ⟨k1, k2 | ⟨k2, k3 | ⟨k3, k4 | ⟨k4, k5 | ⟨k5, k6 | ⟨k6, k7 | ⟨k7, k8⟩⟩⟩⟩⟩⟩⟩
  all_goals
    clear hq
    go_enter Try.func6, Try.ntmps6
    go_wp2_with fail
    go_at_call 8
    refine (small_calls _).mono ?_
    rintro e w1 ⟨rfl, hb1⟩
    go_wp2_with fail
    go_ret
    exact ⟨rfl, hb1⟩
theorem steady_walk (cap hits misses turns : Int) : TellsB 6 #[.int .i64 cap, .int .i64 hits, .int .i64 misses, .int .i64 turns] (.bool true) := by
  by_cases hq : (decide (cap < 0) || decide (1048576 < cap) || decide (hits < 0) || decide (1000 < hits) || decide (misses < 1) || decide (1000 < misses) || decide (turns < 1) || decide (300 < turns)) = true
  · exact steady_out cap hits misses turns hq
  · simp only [Bool.or_eq_true, decide_eq_true_eq, not_or] at hq
    exact steady_in cap hits misses turns (by omega) (by omega) (by omega) (by omega) (by omega) (by omega) (by omega) (by omega)
end Go.Proofs.Ytndmbajdafecoaa
