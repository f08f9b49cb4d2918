/- Layer 5: plain facts on filters; the statements' small case comes out right; FilterAlone. -/
import Derived.Test.YtachbhgfcdnhdaaFilter2
import Derived.Test.YtachbhgfcdnhdaaReads
namespace Go.Proofs.Ytachbhgfcdnhdaa
open Go.RowKit NibPure Go.Sep DoorPure
theorem min_if2 : ∀ x y : Int, (if x < y then x else y) = min y x := fun x y => by split <;> omega
theorem FilterAt.len {g n : Nat} {seed : Int} {st : FSt} {r : Own} (h : FilterAt g seed n st r) : 1 ≤ st.B.length := by
  obtain ⟨gc, gd, gs, gb, rs, rd, rfl, hs, hd⟩ := h.open_
  have := hd.le
  omega
theorem FilterAt.n_le {g n : Nat} {seed : Int} {st : FSt} {r : Own} (h : FilterAt g seed n st r) : (1 ≤ n ∧ n ≤ 4096) ∧ st.N < 160 * n := by
  obtain ⟨gc, gd, gs, gb, rs, rd, rfl, hs, hd⟩ := h.open_
  exact hs.n_le
theorem FSt.next_A (seed : Int) (n : Nat) (st : FSt) (key : Int) : (st.next seed n key).A = st.A ∨ (st.next seed n key).A = st.A + 1 := by
  unfold FSt.next
  split
  · cases st.aged seed n key <;> simp
  · exact Or.inl rfl
theorem FSt.next_lo {seed : Int} {n : Nat} {st : FSt} (key : Int) (h : Lo st.S) : Lo (st.next seed n key).S := by
  unfold FSt.next
  split
  · exact addOf_lo h _ _
  · exact h
theorem FSt.often_le {seed : Int} {n : Nat} {st : FSt} (key : Int) (h : Lo st.S) : st.often seed n key ≤ 16 := by
  have := mnS_lo h (plS seed key (16 * n))
  unfold FSt.often
  split <;> omega
/-- a key that came alone, i times -/
structure AloneF (seed key : Int) (n i : Nat) (st : FSt) : Prop where
  S : st.S = aloneS (plS seed key (16 * n)) (i - 1)
  N : st.N = min (i - 1) 15
  A : st.A = 0
  B : hasB seed key st.B = decide (1 ≤ i)
theorem AloneF.zero (seed key : Int) (n : Nat) (cap : Int) : AloneF seed key n 0 (FSt.new cap) :=
  ⟨(aloneS_zero _).symm, rfl, rfl, by unfold FSt.new; rw [has_zero]; rfl⟩
theorem AloneF.next {seed key : Int} {n i : Nat} {st : FSt} (h : AloneF seed key n i st) (hn : 1 ≤ n) (hl : 1 ≤ st.B.length) : AloneF seed key n (i + 1) (st.next seed n key) := by
  have hb := h.B
  by_cases h1 : 1 ≤ i
  · rw [decide_eq_true h1] at hb
    have hm : st.more seed n key = decide (i - 1 < 15) := by unfold FSt.more; rw [h.S, aloneS_any]
    have ha : st.aged seed n key = false := by
      unfold FSt.aged
      rw [h.N, decide_eq_false (by omega)]
      cases st.more seed n key <;> rfl
    unfold FSt.next
    rw [if_pos hb, hm, ha]
    have e : i - 1 + 1 = i := by omega
    refine ⟨?_, ?_, h.A, ?_⟩
    · show addOf st.S _ false = _
      rw [h.S, aloneS_add, e]; rfl
    · show numOf st.N _ false = _
      rw [h.N, numOf_alone, e]; rfl
    · rw [decide_eq_true (show 1 ≤ i + 1 by omega)]
      simp [has_put seed key hl]
  · obtain rfl : i = 0 := by omega
    rw [decide_eq_false h1] at hb
    unfold FSt.next
    rw [if_neg (by rw [hb]; simp)]
    exact ⟨h.S, h.N, h.A, by show hasB seed key (putB seed key st.B) = _; rw [has_put _ _ hl]; rfl⟩
theorem AloneF.often {seed key : Int} {n i : Nat} {st : FSt} (h : AloneF seed key n i st) : st.often seed n key = min i 16 := by
  unfold FSt.often
  rw [h.S, aloneS_min, h.B]
  by_cases h1 : 1 ≤ i
  · rw [decide_eq_true h1, if_pos rfl]; omega
  · rw [decide_eq_false h1, if_neg (by simp)]; omega
def FAt (w0 : World) (F : Own) (g : Nat) (seed : Int) (n : Nat) (P : FSt → Prop) (w : World) : Prop := ∃ st r, FilterAt g seed n st r ∧ P st ∧ Owned w0 w (r ++ F)
set_option maxHeartbeats 1600000 in
theorem small_calls (w0 : World) : Calls Try.prog 7 #[] w0 fun e w' => e = .returned (.bool true) ∧ Below w0.heap.size w0 w' := by
  have c0 := f_new 10 1 (Owned.nil w0)
  have h1 : wordN 10 = 1 := by decide
  rw [h1] at c0
  have z := AloneF.zero 1 5 1 10
  have Z := Lib.hid z
  clear h1 z
  generalize FSt.new 10 = s0 at *
  go_enter Try.func7, Try.ntmps7
  go_wp2_with fail
  go_at_call 8
  refine (c0).mono ?_
  rintro e w1 ⟨g, r1, rfl, hr1, hO1⟩
  clear c0
  obtain ⟨s1, hs1⟩ : ∃ s, s0.next 1 1 5 = s := ⟨_, rfl⟩
  obtain ⟨s2, hs2⟩ : ∃ s, s1.next 1 1 5 = s := ⟨_, rfl⟩
  obtain ⟨s3, hs3⟩ : ∃ s, s2.next 1 1 5 = s := ⟨_, rfl⟩
  have S1 := Lib.hid hs1
  have S2 := Lib.hid hs2
  have S3 := Lib.hid hs3
  have A0 := Lib.hid Z.out.A
  have o0 := Z.out.often
  have O0 := Lib.hid o0
  have Z1 := Lib.hid (show AloneF 1 5 1 1 s1 from hs1 ▸ Z.out.next (by omega) hr1.len)
  clear hs1 hs2 hs3 o0
  have q0 : s0.A ≤ 1000000 := by rw [A0.out]; omega
  go_wp2_with fail
  go_at_call 13
  refine (f_often 5 (m := 0) O0.out hr1 hO1).mono ?_
  rintro e w2 ⟨rfl, hO2⟩
  go_wp2_with fail
  go_at_call 10
  refine (f_record 5 S1.out q0 hr1 hO2).mono ?_
  rintro e w3 ⟨rfl, r3, hr3, hO3⟩
  clear hr1 hO1 hO2
  have A1 := Lib.hid Z1.out.A
  have o1 := Z1.out.often
  have O1 := Lib.hid o1
  have Z2 := Lib.hid (show AloneF 1 5 1 2 s2 from S2.out ▸ Z1.out.next (by omega) hr3.len)
  clear o1
  have q1 : s1.A ≤ 1000000 := by rw [A1.out]; omega
  go_wp2_with fail
  go_at_call 13
  refine (f_often 5 (m := 1) O1.out hr3 hO3).mono ?_
  rintro e w4 ⟨rfl, hO4⟩
  go_wp2_with fail
  go_at_call 10
  refine (f_record 5 S2.out q1 hr3 hO4).mono ?_
  rintro e w5 ⟨rfl, r5, hr5, hO5⟩
  clear hr3 hO3 hO4
  have A2 := Lib.hid Z2.out.A
  have Z3 := Lib.hid (show AloneF 1 5 1 3 s3 from S3.out ▸ Z2.out.next (by omega) hr5.len)
  have q2 : s2.A ≤ 1000000 := by rw [A2.out]; omega
  go_wp2_with fail
  go_at_call 10
  refine (f_record 5 S3.out q2 hr5 hO5).mono ?_
  rintro e w6 ⟨rfl, r6, hr6, hO6⟩
  clear hr5 hO5
  have A3 := Lib.hid Z3.out.A
  have o3 := Z3.out.often
  have O3 := Lib.hid o3
  clear o3
  go_wp2_with fail
  go_at_call 13
  refine (f_often 5 (m := 3) O3.out hr6 hO6).mono ?_
  rintro e w7 ⟨rfl, hO7⟩
  go_wp2_with fail
  go_at_call 15
  refine (f_better 5 5 (x := 3) (y := 3) (t := false) O3.out O3.out rfl hr6 hO7).mono ?_
  rintro e w8 ⟨rfl, hO8⟩
  have ca := f_ages hr6 hO8
  rw [A3.out] at ca
  go_wp2_with fail
  go_at_call 14
  refine (ca).mono ?_
  rintro e w9 ⟨rfl, rfl⟩
  go_wp2_with fail
  go_ret
  exact ⟨rfl, hO8.below⟩
set_option maxHeartbeats 800000 in
theorem falone_out (cap seed key n : Int) (w0 : World) (h1 : 1024 < cap ∨ (cap ≤ 1024 ∧ n < 0) ∨ (cap ≤ 1024 ∧ 0 ≤ n ∧ 40 < n)) : Calls Try.prog 6 #[.int .i64 cap, .int .i64 seed, .int .i64 key, .int .i64 n] w0 fun e w' => e = .returned (.bool true) ∧ Below w0.heap.size w0 w' := by
  rcases h1 with h1 | ⟨h1, h2⟩ | ⟨h1, h2, h3⟩
  all_goals
    go_enter Try.func6, Try.ntmps6
    go_wp2_with fail
    go_at_call 7
    refine (small_calls w0).mono ?_
    rintro e w1 ⟨rfl, hb1⟩
    go_wp2_with fail
    go_ret
    exact ⟨rfl, hb1⟩
set_option maxHeartbeats 3200000 in
theorem falone_walk (cap seed key : Int) (M : Nat) (w0 : World) (h1 : cap ≤ 1024) (hM : M ≤ 40) : Calls Try.prog 6 #[.int .i64 cap, .int .i64 seed, .int .i64 key, .int .i64 (M : Int)] w0 fun e w' => e = .returned (.bool true) ∧ Below w0.heap.size w0 w' := by
  have hd := fun (w : World) (h : Owned w0 w ([] : Own)) => f_new cap seed h
  obtain ⟨n, hnn⟩ : ∃ n, wordN cap = n := ⟨_, rfl⟩
  rw [hnn] at hd
  have Z := Lib.hid (AloneF.zero seed key n cap)
  have hmin := min_if2
  clear hnn
  generalize FSt.new cap = s0 at *
  go_enter Try.func6, Try.ntmps6
  go_wp2_with fail
  go_at_call 7
  refine (small_calls w0).mono ?_
  rintro e w1 ⟨rfl, hb1⟩
  go_wp2_with fail
  go_at_call 8
  refine (hd _ ((Owned.nil w0).under hb1)).mono ?_
  rintro e w2 ⟨g, r, rfl, hr, hO2⟩
  obtain ⟨F, hO2⟩ : ∃ F, Owned w0 w2 (r ++ F) := ⟨[], hO2⟩
  have HO2 := Lib.hid (show FAt w0 F g seed n (AloneF seed key n 0) w2 from ⟨s0, r, hr, Z.out, hO2⟩)
  clear hr hO2 hd Z
  go_wp2_with fail
  go_loopw [11] (fun x11 wr => ∃ k : Nat, k ≤ M ∧ x11 = .int .i64 (((k + 1 : Nat)) : Int) ∧ Hid (FAt w0 F g seed n (AloneF seed key n k) wr)) (fun x11 _ => M + 1 - (intOf x11).toNat)
  case atStart => exact ⟨0, Nat.zero_le _, rfl, HO2⟩
  case round =>
    clear HO2
    obtain ⟨k, hk, rfl, hrel⟩ := hrel
    obtain ⟨st, r1, hr1, hal, hO⟩ := hrel.out
    clear hrel
    have HA := Lib.hid hal.A
    by_cases hlt : k < M
    · have t0 : decide (k + 1 ≤ M) = true := decide_eq_true (by omega)
      obtain ⟨st', hst⟩ : ∃ s, st.next seed n key = s := ⟨_, rfl⟩
      have hal' : AloneF seed key n (k + 1) st' := hst ▸ hal.next hr1.n_le.1.1 hr1.len
      have ho := hal'.often
      have ST := Lib.hid hst
      have AL := Lib.hid hal'
      have q : st.A ≤ 1000000 := by rw [HA.out]; omega
      obtain ⟨mm, hmm⟩ : ∃ m, min (k + 1) 16 = m := ⟨_, rfl⟩
      rw [hmm] at ho
      have HO := Lib.hid ho
      clear hst hal hal' ho
      go_wp2_with fail
      go_at_call 10
      refine (f_record key ST.out q hr1 hO).mono ?_
      rintro e w3 ⟨rfl, r3, hr3, hO3⟩
      clear hr1 hO
      go_wp2_with fail
      go_at_call 13
      refine (f_often key (m := mm) HO.out hr3 hO3).mono ?_
      rintro e w4 ⟨rfl, hO4⟩
      have HR3 := Lib.hid hr3
      have HO4 := Lib.hid hO4
      clear hr3 hO3 hO4
      by_cases h16 : k < 15
      · obtain rfl : mm = k + 1 := by omega
        clear hmm
        go_wp2_with fail
        go_roundw
        case rel => exact ⟨k + 1, by omega, by go_num, st', r3, HR3.out, AL.out, HO4.out⟩
        case measure => simp [intOf]; omega
      · obtain rfl : mm = 16 := by omega
        clear hmm
        have t2 : ((16 : Int) != min ((k : Int) + 1) 16) = false := by rw [bne_eq_false_iff_eq]; omega
        go_wp2_with fail
        go_roundw
        case rel => exact ⟨k + 1, by omega, by go_num, st', r3, HR3.out, AL.out, HO4.out⟩
        case measure => simp [intOf]; omega
    · obtain rfl : k = M := by omega
      have t0 : decide (k + 1 ≤ k) = false := decide_eq_false (by omega)
      have ca := f_ages hr1 hO
      rw [HA.out] at ca
      go_wp2_with fail
      go_at_call 14
      refine (ca).mono ?_
      rintro e w9 ⟨rfl, rfl⟩
      go_wp2_with fail
      go_ret
      exact ⟨rfl, hO.below⟩
end Go.Proofs.Ytachbhgfcdnhdaa
