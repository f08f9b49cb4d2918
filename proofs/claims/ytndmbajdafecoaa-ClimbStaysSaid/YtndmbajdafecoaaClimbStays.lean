/- The statement ClimbStays: the plain law and the walk. -/
import Derived.Test.YtndmbajdafecoaaClimbPlays
namespace Go.Proofs.Ytndmbajdafecoaa
open Go.RowKit Go.Sep
/-- what holds of a climb that is played -/
structure Stays (cap : Int) (k : Nat) (x : PS) : Prop where
  h0 : 0 ≤ x.h
  m0 : 0 ≤ x.m
  hm : x.h + x.m ≤ k
  l0 : 0 ≤ x.l
  l1 : x.l ≤ 65536
  s0 : -(firstN cap) ≤ x.s
  s1 : x.s ≤ firstN cap
  c : x.c = ofC cap
  w0 : lo (ofC cap) ≤ x.w
  w1 : x.w ≤ hi (ofC cap)
  p : x.p = pr (ofC cap) x.w
theorem ofC_ofC (c : Int) : ofC (ofC c) = ofC c := cl_id (ofC_in c).1 (ofC_in c).2
theorem stays_init (cap : Int) : Stays cap 0 (initP cap) := by
  have h1 := firstN_in cap
  have h2 := ofW_in cap
  exact ⟨by simp [initP], by simp [initP], by simp [initP], by simp [initP], by simp [initP], by simp [initP]; omega, by simp [initP], rfl, h2.1, h2.2, rfl⟩
theorem stays_step (cap per : Int) (k : Nat) (hk : k ≤ 100000) (x : PS) (hit : Bool) (H : Stays cap k x) : Stays cap (k + 1) (stepP cap per x hit) := by
  obtain ⟨h0, m0, hm, l0, l1, s0, s1, hc, w0, w1, hp⟩ := H
  obtain ⟨f0, f1⟩ := firstN_in cap
  have eh : cH x.h hit = if hit = true then x.h + 1 else x.h := by
    unfold cH
    rw [fitN_id h0 (by omega)]
    split
    · rw [fitN_id (by omega) (by omega)]
    · rfl
  have em : cM x.m hit = if hit = true then x.m else x.m + 1 := by
    unfold cM
    rw [fitN_id m0 (by omega)]
    split
    · rfl
    · rw [fitN_id (by omega) (by omega)]
  have el : fitL x.l = x.l := fitL_id l0 l1
  have es : fitS x.s = x.s := fitS_id (by omega) (by omega)
  unfold stepP
  split
  · -- it turns
    have hr := rateN_in (cH x.h hit) (cM x.m hit)
    have hf : farN (cH x.h hit) (cM x.m hit) (fitL x.l) (fitS x.s) = x.s ∨ farN (cH x.h hit) (cM x.m hit) (fitL x.l) (fitS x.s) = -x.s := by
      unfold farN
      rw [es, es]
      split
      · exact .inr rfl
      · exact .inl rfl
    have hk := keptN_in (farN (cH x.h hit) (cM x.m hit) (fitL x.l) (fitS x.s))
    have hs : -(firstN cap) ≤ stepN (cH x.h hit) (cM x.m hit) (fitL x.l) (fitS x.s) cap ∧ stepN (cH x.h hit) (cM x.m hit) (fitL x.l) (fitS x.s) cap ≤ firstN cap := by
      unfold stepN
      split
      · split <;> omega
      · omega
    have hw := shW_in x.c x.w (farN (cH x.h hit) (cM x.m hit) (fitL x.l) (fitS x.s))
    rw [hc, ofC_ofC] at hw
    refine ⟨by simp [PS.turned], by simp [PS.turned], by simp [PS.turned]; omega, hr.1, hr.2, hs.1, hs.2, ?_, ?_, ?_, ?_⟩
    · show ofC x.c = ofC cap
      rw [hc, ofC_ofC]
    · show lo (ofC cap) ≤ shW x.c x.w _
      rw [hc]; exact hw.1
    · show shW x.c x.w _ ≤ hi (ofC cap)
      rw [hc]; exact hw.2
    · show pr (ofC x.c) _ = pr (ofC cap) _
      rw [hc, ofC_ofC]
      rfl
  · refine ⟨?_, ?_, ?_, ?_, ?_, ?_, ?_, hc, w0, w1, hp⟩
    · show 0 ≤ cH x.h hit
      rw [eh]; split <;> omega
    · show 0 ≤ cM x.m hit
      rw [em]; split <;> omega
    · show cH x.h hit + cM x.m hit ≤ ((k + 1 : Nat) : Int)
      rw [eh, em]; split <;> omega
    · show 0 ≤ fitL x.l
      omega
    · show fitL x.l ≤ 65536
      omega
    · show -(firstN cap) ≤ fitS x.s
      omega
    · show fitS x.s ≤ firstN cap
      omega
theorem stays_play (cap per : Int) (l : List Bool) (hl : l.length ≤ 100000) : ∀ k, k ≤ l.length → Stays cap k (playP cap per (l.take k))
  | 0, _ => by rw [List.take_zero]; exact stays_init cap
  | k + 1, hk => by
    rw [playP_snoc cap per l k (by omega)]
    exact stays_step cap per k (by omega) _ _ (stays_play cap per l hl k (by omega))
theorem stays_right {cap : Int} {k : Nat} {x : PS} (H : Stays cap k x) : rightB x.c x.w x.p = true := by
  have e : shW (ofC cap) x.w 0 = x.w := by
    unfold shW
    rw [ofC_ofC, cl_id H.w0 H.w1]
    have h1 := H.w0
    have h2 := H.w1
    rw [cl_id (by omega) (by omega)]
    omega
  unfold rightB
  rw [H.c, ofC_ofC, e, ← H.p]
  simp
theorem readsb_take {w : World} {A : Option Addr} {c : Nat} {l : List Bool} (h : ReadsB w (.slice A l.length c) l) (n : Nat) (hn : n ≤ l.length) : ReadsB w (.slice A n c) (l.take n) := by
  obtain ⟨h1, A', c', hv, h2, h3, h4⟩ := h
  injection hv with e1 e2 e3
  subst e1
  subst e3
  have hl : (l.take n).length = n := by rw [List.length_take]; omega
  refine ⟨by omega, A, c, by rw [hl], by omega, h3, fun hp => ?_⟩
  obtain ⟨b, o, hA, hc⟩ := h4 (by omega)
  refine ⟨b, o, hA, fun i hi => ?_⟩
  rw [hc i (by omega)]
  simp [List.getD, show i < n by omega]
theorem chain3 : ∀ q1 q2 q3 : Bool, (q1 || q2 || q3) = true → q1 = true ∨ (q1 = false ∧ (q2 = true ∨ (q2 = false ∧ q3 = true))) := by decide
set_option maxHeartbeats 800000 in
theorem stays_out (cap per : Int) (v : Value) (l : List Bool) (w0 : World) (hv : ReadsB w0 v l) (hq : (decide (300 < (l.length : Int)) || decide (cap < 0) || decide (4611686018427387903 < cap)) = true) :
    Calls Try.prog 7 #[.int .i64 cap, .int .i64 per, v] w0 fun e w' => e = .returned (.bool true) ∧ Below w0.heap.size w0 w' := by
  obtain ⟨h1, A, c, rfl, _, _, _⟩ := hv
  generalize l.length = n at *
  rcases chain3 _ _ _ hq with k1 | ⟨k1, k2 | ⟨k2, k3⟩⟩
  all_goals
    clear hq
    go_enter Try.func7, Try.ntmps7
    go_wp2_with fail
    go_at_call 8
    refine (small_calls _).mono ?_
    rintro e w1 ⟨rfl, hb1⟩
    go_wp2_with fail
    go_ret
    exact ⟨rfl, hb1⟩
set_option maxHeartbeats 6400000 in
set_option maxRecDepth 100000 in
theorem stays_in (cap per : Int) (v : Value) (l : List Bool) (w0 : World) (hv : ReadsB w0 v l) (hl : l.length ≤ 300) (cap0 : 0 ≤ cap) (cap1 : cap ≤ 4611686018427387903) :
    Calls Try.prog 7 #[.int .i64 cap, .int .i64 per, v] w0 fun e w' => e = .returned (.bool true) ∧ Below w0.heap.size w0 w' := by
  have hv0 := hv
  obtain ⟨h1, A, c, rfl, hcap, hnil, _⟩ := hv0
  have HNIL := Lib.hid hnil
  clear hnil
  have k1 : decide (300 < (l.length : Int)) = false := decide_eq_false (by omega)
  have k2 : decide (cap < 0) = false := decide_eq_false (by omega)
  have k3 : decide (4611686018427387903 < cap) = false := decide_eq_false (by omega)
  have hfi := firstN_in cap
  have hplay := fun n (hn : n ≤ l.length) w (hr : ReadsB w (.slice A l.length c) l) => play_calls cap per _ _ w (readsb_take hr n hn)
  have hst := stays_play cap per l (by omega)
  have hcc : ofC cap = cap := cl_id cap0 cap1
  have HP := Lib.hid hplay
  have HST := Lib.hid hst
  have HV := Lib.hid hv
  have c1 := new_calls cap
  have HC := Lib.hid hcc
  clear hplay hst hv hcc
  generalize hfe : firstN cap = fi at *
  have HFE := Lib.hid hfe
  clear hfe
  have hfield : ∀ w, (Instr.field 23 (.agg #[.int .i64 0, .int .i64 0, .int .i64 0, .int .i64 fi]) 3).run Try.prog w = .ok (.int .i64 fi) w := fun w => by kernel_rfl
  unfold climbC at c1
  generalize l.length = N at *
  go_enter Try.func7, Try.ntmps7
  go_wp2_with fail
  go_at_call 8
  refine (small_calls _).mono ?_
  rintro e w1 ⟨rfl, hb1⟩
  go_wp2_with fail
  go_at_call 17
  refine (c1 _).mono ?_
  rintro e w2 ⟨rfl, hb2⟩
  have hb := hb1.trans (hb2.mono hb1.size)
  clear hb1 hb2
  go_wp2_with fail
  go_loopw [9] (fun x9 wr => ∃ k : Nat, k ≤ N + 7 ∧ x9 = .int .i64 k ∧ Below w0.heap.size w0 wr) (fun x9 _ => N + 7 - (intOf x9).toNat)
  case atStart => exact ⟨0, by omega, rfl, hb⟩
  case round =>
    obtain ⟨k, hk, rfl, hb3⟩ := hrel
    clear hb
    by_cases hlt : k ≤ N
    · have hd : decide ((k : Int) ≤ N) = true := decide_eq_true (by omega)
      have S := HST.out k hlt
      have c2 := HP.out k hlt wr (HV.out.below hb3)
      have hri := stays_right S
      obtain ⟨h0, m0, hm, l0, l1, s0, s1, hc, w0', w1', hp⟩ := S
      rw [HC.out] at hc
      rw [HFE.out] at s0 s1
      generalize playP cap per (l.take k) = x at *
      obtain ⟨xh, xm, xl, xs, q, w', p⟩ := x
      simp only at h0 m0 hm l0 l1 s0 s1 hc hri
      obtain ⟨r0, r1⟩ := rateN_in xh xm
      have c3 := rate_calls xh xm xl xs
      have c4 := right_calls q w' p
      rw [hri] at c4
      generalize rateN xh xm = r at *
      subst hc
      have j1 : decide (fi < xs) = false := decide_eq_false (by omega)
      have j2 : decide (xs < -fi) = false := decide_eq_false (by omega)
      have j3 : decide (r < 0) = false := decide_eq_false (by omega)
      have j4 : decide (65536 < r) = false := decide_eq_false (by omega)
      have j5 : decide (xl < 0) = false := decide_eq_false (by omega)
      have j6 : decide (65536 < xl) = false := decide_eq_false (by omega)
      have j7 : decide (xh < 0) = false := decide_eq_false (by omega)
      have j8 : decide (xm < 0) = false := decide_eq_false (by omega)
      have j9 : decide ((k : Int) < xh + xm) = false := decide_eq_false (by omega)
      have c2 : Calls Try.prog 19 #[.int .i64 q, .int .i64 per, .slice A k c] wr fun e w'' => e = .returned (.tuple #[.agg #[.int .i64 xh, .int .i64 xm, .int .i64 xl, .int .i64 xs], .agg #[.int .i64 q, .int .i64 w', .int .i64 p]]) ∧ Below wr.heap.size wr w'' := c2
      unfold climbC at c3
      unfold quotaC at c4
      have j10 : (k : Int) ≤ (c : Int) := by omega
      have HCAP := Lib.hid hcap
      clear HP HST HV HC HFE hcap hp w0' w1'
      rcases A with _ | ad
      · have e1 := HNIL.out rfl
        subst e1
        obtain rfl : N = 0 := by have := HCAP.out; omega
        obtain rfl : k = 0 := by omega
        clear HNIL HCAP
        go_wp2_with (first
          | (go_at_call 19; refine c2.mono ?_; rintro e w3 ⟨rfl, hb4⟩; have HO3 := Lib.hid ((((Owned.nil w0).under hb3).under hb4).alloc2 (.cells #[.int .i64 0, .int .i64 0, .int .i64 0, .int .i64 0] 23) (.cells #[.int .i64 0, .int .i64 0, .int .i64 0] 34)); clear c2)
          | (refine store_whole rfl _ _ _ rfl w3.heap.size rfl HO3.out #[.int .i64 xh, .int .i64 xm, .int .i64 xl, .int .i64 xs] rfl rfl info_climb (climb_one _ _ _ _) ?_; intro w4 hO4; have HO4 := Lib.hid hO4.swap; clear hO4 HO3)
          | (refine store_whole rfl _ _ _ rfl (w3.heap.size + 1) rfl HO4.out #[.int .i64 q, .int .i64 w', .int .i64 p] rfl rfl info_quota (quota_one _ _ _) ?_; intro w5 hO5; have HO5 := Lib.hid hO5.swap; clear hO5 HO4)
          | (refine load_whole rfl _ _ rfl w3.heap.size rfl HO5.out _ und_climb rfl info_climb ?_)
          | (go_at_call 15; refine (c3 _).mono ?_; rintro e w6 ⟨rfl, hb6⟩; have HO6 := Lib.hid (HO5.out.under hb6); clear HO5 c3; obtain ⟨b0, b1, b2, b3, _, _, _, _⟩ := climb_facts (a := xh) (b := xm) (c := xl) (d := xs) HO6.out; obtain ⟨d0, d1, d2, _, _, _⟩ := quota_facts (a := q) (b := w') (c := p) HO6.out.swap)
          | (go_at_call 21; refine (c4 _).mono ?_; rintro e w7 ⟨rfl, hb7⟩; have HO7 := Lib.hid (HO6.out.under hb7); clear c4 b0 b1 b2 b3 d0 d1 d2; obtain ⟨b0, b1, b2, b3, _, _, _, _⟩ := climb_facts (a := xh) (b := xm) (c := xl) (d := xs) HO7.out; obtain ⟨d0, d1, d2, _, _, _⟩ := quota_facts (a := q) (b := w') (c := p) HO7.out.swap))
        go_roundw
        case rel => ((repeat apply Exists.intro); exact ⟨⟨7, by omega, rfl, HO7.out.below⟩, rfl⟩)
        case measure => simp [intOf]
      · clear HNIL HCAP
        go_wp2_with (first
          | (go_at_call 19; refine c2.mono ?_; rintro e w3 ⟨rfl, hb4⟩; have HO3 := Lib.hid ((((Owned.nil w0).under hb3).under hb4).alloc2 (.cells #[.int .i64 0, .int .i64 0, .int .i64 0, .int .i64 0] 23) (.cells #[.int .i64 0, .int .i64 0, .int .i64 0] 34)); clear c2)
          | (refine store_whole rfl _ _ _ rfl w3.heap.size rfl HO3.out #[.int .i64 xh, .int .i64 xm, .int .i64 xl, .int .i64 xs] rfl rfl info_climb (climb_one _ _ _ _) ?_; intro w4 hO4; have HO4 := Lib.hid hO4.swap; clear hO4 HO3)
          | (refine store_whole rfl _ _ _ rfl (w3.heap.size + 1) rfl HO4.out #[.int .i64 q, .int .i64 w', .int .i64 p] rfl rfl info_quota (quota_one _ _ _) ?_; intro w5 hO5; have HO5 := Lib.hid hO5.swap; clear hO5 HO4)
          | (refine load_whole rfl _ _ rfl w3.heap.size rfl HO5.out _ und_climb rfl info_climb ?_)
          | (go_at_call 15; refine (c3 _).mono ?_; rintro e w6 ⟨rfl, hb6⟩; have HO6 := Lib.hid (HO5.out.under hb6); clear HO5 c3; obtain ⟨b0, b1, b2, b3, _, _, _, _⟩ := climb_facts (a := xh) (b := xm) (c := xl) (d := xs) HO6.out; obtain ⟨d0, d1, d2, _, _, _⟩ := quota_facts (a := q) (b := w') (c := p) HO6.out.swap)
          | (go_at_call 21; refine (c4 _).mono ?_; rintro e w7 ⟨rfl, hb7⟩; have HO7 := Lib.hid (HO6.out.under hb7); clear c4 b0 b1 b2 b3 d0 d1 d2; obtain ⟨b0, b1, b2, b3, _, _, _, _⟩ := climb_facts (a := xh) (b := xm) (c := xl) (d := xs) HO7.out; obtain ⟨d0, d1, d2, _, _, _⟩ := quota_facts (a := q) (b := w') (c := p) HO7.out.swap))
        go_roundw
        case rel => exact ⟨k + 7, by omega, by go_num, HO7.out.below⟩
        case measure => simp [intOf]; omega
    · have hd : decide ((k : Int) ≤ N) = false := decide_eq_false (by omega)
      have j1 : decide (1 ≤ fi) = true := decide_eq_true (by omega)
      clear HP HST HV HC HFE HNIL
      go_wp2_with fail
      go_ret
      exact ⟨rfl, hb3⟩
theorem stays_walk (cap per : Int) (v : Value) (l : List Bool) (w0 : World) (hv : ReadsB w0 v l) :
    Calls Try.prog 7 #[.int .i64 cap, .int .i64 per, v] w0 fun e w' => e = .returned (.bool true) ∧ Below w0.heap.size w0 w' := by
  by_cases hq : (decide (300 < (l.length : Int)) || decide (cap < 0) || decide (4611686018427387903 < cap)) = true
  · exact stays_out cap per v l w0 hv hq
  · simp only [Bool.or_eq_true, decide_eq_true_eq, not_or] at hq
    exact stays_in cap per v l w0 hv (by omega) (by omega) (by omega)
end Go.Proofs.Ytndmbajdafecoaa
