/- Merged texts: Contracts of layer 10's functions: rates, counts, turns. -/
import Derived.Test.YtnhdjpeadhcajaaK26
namespace Go.Proofs.Ytnhdjpeadhcajaa
open Go.RowKit Go.Sep
set_option maxRecDepth 100000
def rateN (h m : Int) : Int := if fitN h = 0 then 0 else fitN h * 65536 / (fitN h + fitN m)
set_option maxHeartbeats 800000 in
theorem rate_calls (h m l s : Int) : TellsQ 70 #[.agg (climbC h m l s)] (.int .i64 (rateN h m)) := by
  intro w0
  have c1 : TellsQ 69 #[.agg (climbC h m l s)] (.agg (climbC (fitN h) (fitN m) (fitL l) (fitS s))) := fit_calls h m l s
  have HO := Lib.hid ((Owned.nil w0).alloc (.cells (climbC h m l s) 45))
  obtain ⟨a1, a2⟩ := fitN_in h
  obtain ⟨b1, b2⟩ := fitN_in m
  unfold rateN
  generalize fitN h = a at *
  generalize fitN m = b at *
  generalize fitL l = c at *
  generalize fitS s = d at *
  by_cases ha : a = 0
  · subst ha
    go_enter Try.func70, Try.ntmps70
    go_wp2_with (first
      | (refine load_whole rfl _ _ rfl w0.heap.size rfl HO.out _ und_climb rfl info_climb ?_)
      | (go_at_call 69; refine (c1 _).mono ?_; rintro e w1 ⟨rfl, hb1⟩; have HO1 := Lib.hid (HO.out.under hb1); clear HO c1)
      | (refine store_whole rfl _ _ _ rfl w0.heap.size rfl HO1.out (climbC _ _ _ _) rfl rfl info_climb (climb_one _ _ _ _) ?_; intro w2 hO2; have g0 : w2.cell? ⟨w0.heap.size, 0, none⟩ = some (.int .i64 0) := Owned.cell hO2 0; have HO2 := Lib.hid hO2; clear hO2))
    go_ret
    exact ⟨rfl, HO2.out.below⟩
  · have hne : (a == 0) = false := by simpa using ha
    rw [if_neg ha]
    have hab : 0 < a + b := by omega
    have hq : (a + b == 0) = false := by rw [beq_eq_false_iff_ne]; omega
    clear ha
    go_enter Try.func70, Try.ntmps70
    go_wp2_with (first
      | (refine load_whole rfl _ _ rfl w0.heap.size rfl HO.out _ und_climb rfl info_climb ?_)
      | (go_at_call 69; refine (c1 _).mono ?_; rintro e w1 ⟨rfl, hb1⟩; have HO1 := Lib.hid (HO.out.under hb1); clear HO c1)
      | (refine store_whole rfl _ _ _ rfl w0.heap.size rfl HO1.out (climbC _ _ _ _) rfl rfl info_climb (climb_one _ _ _ _) ?_; intro w2 hO2; have g0 : w2.cell? ⟨w0.heap.size, 0, none⟩ = some (.int .i64 a) := Owned.cell hO2 0; have g1 : w2.cell? ⟨w0.heap.size, 1, none⟩ = some (.int .i64 b) := Owned.cell hO2 1; have HO2 := Lib.hid hO2; clear hO2))
    go_ret
    exact ⟨ret_int rfl, HO2.out.below⟩
def dueB (h m p : Int) : Bool := decide (0 < p) && decide (p ≤ fitN h + fitN m)
set_option maxHeartbeats 800000 in
theorem due_calls (h m l s p : Int) : TellsQ 48 #[.agg (climbC h m l s), .int .i64 p] (.bool (dueB h m p)) := by
  intro w0
  have c1 : TellsQ 69 #[.agg (climbC h m l s)] (.agg (climbC (fitN h) (fitN m) (fitL l) (fitS s))) := fit_calls h m l s
  have HO := Lib.hid ((Owned.nil w0).alloc (.cells (climbC h m l s) 45))
  obtain ⟨a1, a2⟩ := fitN_in h
  obtain ⟨b1, b2⟩ := fitN_in m
  unfold dueB
  generalize fitN h = a at *
  generalize fitN m = b at *
  generalize fitL l = c at *
  generalize fitS s = d at *
  by_cases hp : 0 < p
  · have hd : decide (0 < p) = true := decide_eq_true hp
    rw [hd, Bool.true_and]
    go_enter Try.func48, Try.ntmps48
    go_wp2_with (first
      | (refine load_whole rfl _ _ rfl w0.heap.size rfl HO.out _ und_climb rfl info_climb ?_)
      | (go_at_call 69; refine (c1 _).mono ?_; rintro e w1 ⟨rfl, hb1⟩; have HO1 := Lib.hid (HO.out.under hb1); clear HO c1)
      | (refine store_whole rfl _ _ _ rfl w0.heap.size rfl HO1.out (climbC _ _ _ _) rfl rfl info_climb (climb_one _ _ _ _) ?_; intro w2 hO2; have g0 : w2.cell? ⟨w0.heap.size, 0, none⟩ = some (.int .i64 a) := Owned.cell hO2 0; have g1 : w2.cell? ⟨w0.heap.size, 1, none⟩ = some (.int .i64 b) := Owned.cell hO2 1; have HO2 := Lib.hid hO2; clear hO2))
    go_ret
    exact ⟨rfl, HO2.out.below⟩
  · have hd : decide (0 < p) = false := decide_eq_false hp
    rw [hd, Bool.false_and]
    clear hp
    go_enter Try.func48, Try.ntmps48
    go_wp2_with (first
      | (refine load_whole rfl _ _ rfl w0.heap.size rfl HO.out _ und_climb rfl info_climb ?_)
      | (go_at_call 69; refine (c1 _).mono ?_; rintro e w1 ⟨rfl, hb1⟩; have HO1 := Lib.hid (HO.out.under hb1); clear HO c1)
      | (refine store_whole rfl _ _ _ rfl w0.heap.size rfl HO1.out (climbC _ _ _ _) rfl rfl info_climb (climb_one _ _ _ _) ?_; intro w2 hO2; have HO2 := Lib.hid hO2; clear hO2))
    go_ret
    exact ⟨rfl, HO2.out.below⟩
/-- one more -/
def countC (h m l s : Int) (hit : Bool) : Array Value := climbC (if hit = true then fitN (fitN h + 1) else fitN h) (if hit = true then fitN m else fitN (fitN m + 1)) (fitL l) (fitS s)
theorem fitN_fit (n : Int) : fitN (fitN n) = fitN n := fitN_id (fitN_in n).1 (fitN_in n).2
theorem fitL_fit (n : Int) : fitL (fitL n) = fitL n := fitL_id (fitL_in n).1 (fitL_in n).2
theorem fitS_fit (n : Int) : fitS (fitS n) = fitS n := fitS_id (fitS_in n).1 (fitS_in n).2
set_option maxHeartbeats 800000 in
theorem count_calls (h m l s : Int) (hit : Bool) : TellsQ 47 #[.agg (climbC h m l s), .bool hit] (.agg (countC h m l s hit)) := by
  intro w0
  have c1 : TellsQ 69 #[.agg (climbC h m l s)] (.agg (climbC (fitN h) (fitN m) (fitL l) (fitS s))) := fit_calls h m l s
  have hO := ((Owned.nil w0).alloc (.cells (climbC h m l s) 45)).alloc (.cells (climbC 0 0 0 0) 45)
  rw [show (w0.alloc (.cells (climbC h m l s) 45)).heap.size = w0.heap.size + 1 by simp] at hO
  have HO := Lib.hid hO.swap
  clear hO
  obtain ⟨a1, a2⟩ := fitN_in h
  obtain ⟨b1, b2⟩ := fitN_in m
  have e1 : ∀ x y, fitC x y (fitL l) (fitS s) = climbC (fitN x) (fitN y) (fitL l) (fitS s) := fun x y => by unfold fitC; rw [fitL_fit, fitS_fit]
  cases hit with
  | true =>
    have c2 : TellsQ 69 #[.agg (climbC (fitN h + 1) (fitN m) (fitL l) (fitS s))] (.agg (climbC (fitN (fitN h + 1)) (fitN m) (fitL l) (fitS s))) := by
      have := fit_calls (fitN h + 1) (fitN m) (fitL l) (fitS s)
      rw [e1, fitN_fit] at this
      exact this
    have he : countC h m l s true = climbC (fitN (fitN h + 1)) (fitN m) (fitL l) (fitS s) := rfl
    rw [he]
    clear he e1
    generalize fitN (fitN h + 1) = x at *
    generalize fitN h = a at *
    generalize fitN m = b at *
    generalize fitL l = c at *
    generalize fitS s = d at *
    go_enter Try.func47, Try.ntmps47
    go_wp2_with (first
      | (refine load_whole rfl _ _ rfl w0.heap.size rfl HO.out _ und_climb rfl info_climb ?_)
      | (go_at_call 69; refine (c1 _).mono ?_; rintro e w1 ⟨rfl, hb1⟩; have HO1 := Lib.hid (HO.out.under hb1); clear HO c1)
      | (refine store_whole rfl _ _ _ rfl w0.heap.size rfl HO1.out (climbC a b c d) rfl rfl info_climb (climb_one _ _ _ _) ?_; intro w2 hO2; have g0 : w2.cell? ⟨w0.heap.size, 0, none⟩ = some (.int .i64 a) := Owned.cell hO2 0; have f0 := Owned.frozen hO2 0; have HO2 : Hid (Owned w0 _ ((w0.heap.size, .cells (climbC (a + 1) b c d) 45 (0, 0)) :: _)) := Lib.hid (hO2.set 0 (.int .i64 (a + 1))); clear hO2 HO1)
      | (refine load_whole rfl _ _ rfl w0.heap.size rfl HO2.out _ und_climb rfl info_climb ?_)
      | (go_at_call 69; refine (c2 _).mono ?_; rintro e w3 ⟨rfl, hb3⟩; have HO3 := Lib.hid (HO2.out.under hb3); clear HO2)
      | (refine store_whole rfl _ _ _ rfl (w0.heap.size + 1) rfl HO3.out.swap (climbC _ _ _ _) rfl rfl info_climb (climb_one _ _ _ _) ?_; intro w4 hO4; have HO4 := Lib.hid hO4; clear hO4))
    exact bodyPost_ret (results_cell_row rfl _ _ (w0.heap.size + 1) _ (climbC x b c d) _ _ rfl HO4.out.head und_climb rfl info_climb) rfl ⟨rfl, HO4.out.below⟩
  | false =>
    have c2 : TellsQ 69 #[.agg (climbC (fitN h) (fitN m + 1) (fitL l) (fitS s))] (.agg (climbC (fitN h) (fitN (fitN m + 1)) (fitL l) (fitS s))) := by
      have := fit_calls (fitN h) (fitN m + 1) (fitL l) (fitS s)
      rw [e1, fitN_fit] at this
      exact this
    have he : countC h m l s false = climbC (fitN h) (fitN (fitN m + 1)) (fitL l) (fitS s) := rfl
    rw [he]
    clear he e1
    generalize fitN (fitN m + 1) = x at *
    generalize fitN h = a at *
    generalize fitN m = b at *
    generalize fitL l = c at *
    generalize fitS s = d at *
    go_enter Try.func47, Try.ntmps47
    go_wp2_with (first
      | (refine load_whole rfl _ _ rfl w0.heap.size rfl HO.out _ und_climb rfl info_climb ?_)
      | (go_at_call 69; refine (c1 _).mono ?_; rintro e w1 ⟨rfl, hb1⟩; have HO1 := Lib.hid (HO.out.under hb1); clear HO c1)
      | (refine store_whole rfl _ _ _ rfl w0.heap.size rfl HO1.out (climbC a b c d) rfl rfl info_climb (climb_one _ _ _ _) ?_; intro w2 hO2; have g0 : w2.cell? ⟨w0.heap.size, 1, none⟩ = some (.int .i64 b) := Owned.cell hO2 1; have f0 := Owned.frozen hO2 1; have HO2 : Hid (Owned w0 _ ((w0.heap.size, .cells (climbC a (b + 1) c d) 45 (0, 0)) :: _)) := Lib.hid (hO2.set 1 (.int .i64 (b + 1))); clear hO2 HO1)
      | (refine load_whole rfl _ _ rfl w0.heap.size rfl HO2.out _ und_climb rfl info_climb ?_)
      | (go_at_call 69; refine (c2 _).mono ?_; rintro e w3 ⟨rfl, hb3⟩; have HO3 := Lib.hid (HO2.out.under hb3); clear HO2)
      | (refine store_whole rfl _ _ _ rfl (w0.heap.size + 1) rfl HO3.out.swap (climbC _ _ _ _) rfl rfl info_climb (climb_one _ _ _ _) ?_; intro w4 hO4; have HO4 := Lib.hid hO4; clear hO4))
    exact bodyPost_ret (results_cell_row rfl _ _ (w0.heap.size + 1) _ (climbC a x c d) _ _ rfl HO4.out.head und_climb rfl info_climb) rfl ⟨rfl, HO4.out.below⟩
/-- how far to go, and the next step -/
def farN (h m l s : Int) : Int := if rateN h m < fitL l then - fitS s else fitS s
def stepN (h m l s cap : Int) : Int :=
  if 3277 ≤ rateN h m - fitL l ∨ 3277 ≤ fitL l - rateN h m then (if farN h m l s < 0 then - firstN cap else firstN cap) else keptN (farN h m l s)
theorem rateN_in (h m : Int) : 0 ≤ rateN h m ∧ rateN h m ≤ 65536 := by
  obtain ⟨a1, a2⟩ := fitN_in h
  obtain ⟨b1, b2⟩ := fitN_in m
  unfold rateN
  generalize fitN h = a at *
  generalize fitN m = b at *
  split
  · omega
  · have hab : 0 < a + b := by omega
    have hdiv := Int.ediv_le_ediv hab (show a * 65536 ≤ 65536 * (a + b) by omega)
    rw [Int.mul_ediv_cancel _ (by omega)] at hdiv
    exact ⟨Int.ediv_nonneg (by omega) (by omega), hdiv⟩
theorem rateN_fit (h m : Int) : rateN (fitN h) (fitN m) = rateN h m := by unfold rateN; rw [fitN_fit, fitN_fit]
theorem farN_in (h m l s : Int) : -4611686018427387903 ≤ farN h m l s ∧ farN h m l s ≤ 4611686018427387903 := by
  have := fitS_in s
  unfold farN
  split <;> omega
theorem results_cell_tmp {P : Program} {fn : Func} {p q : Tmp} {ty : TypeId} (h : fn.results = #[.cell p ty, .tmp q]) (tmps : Array Value) (w : World) (g : Nat) (t : TypeId) (cs : Array Value) (fr : Nat × Nat) (d : TypeDesc)
    (hp : tmps.getD p undef = .pointer (some ⟨g, 0, none⟩)) (hg : w.heap[g]? = some (.cells cs t fr))
    (hu : P.underlying ty = some d) (hd : (match d with | .struct _ | .array _ _ => true | _ => false) = true) (hi : (P.info? ty).map (·.size) = some cs.size) :
    (results fn tmps).run P w = .ok (.tuple #[.agg cs, tmps.getD q undef]) w := by
  have hp' : tmps[p]?.getD undef = .pointer (some ⟨g, 0, none⟩) := by simpa using hp
  simp [results, h, hp', asAddr, run_loadVar_row w g t ty cs fr d hg hu hd hi]
theorem results_cell_cell {P : Program} {fn : Func} {p q : Tmp} {ty ty2 : TypeId} (h : fn.results = #[.cell p ty, .cell q ty2]) (tmps : Array Value) (w : World) (g g2 : Nat) (t t2 : TypeId) (cs cs2 : Array Value) (fr fr2 : Nat × Nat) (d d2 : TypeDesc)
    (hp : tmps.getD p undef = .pointer (some ⟨g, 0, none⟩)) (hg : w.heap[g]? = some (.cells cs t fr))
    (hu : P.underlying ty = some d) (hd : (match d with | .struct _ | .array _ _ => true | _ => false) = true) (hi : (P.info? ty).map (·.size) = some cs.size)
    (hp2 : tmps.getD q undef = .pointer (some ⟨g2, 0, none⟩)) (hg2 : w.heap[g2]? = some (.cells cs2 t2 fr2))
    (hu2 : P.underlying ty2 = some d2) (hd2 : (match d2 with | .struct _ | .array _ _ => true | _ => false) = true) (hi2 : (P.info? ty2).map (·.size) = some cs2.size) :
    (results fn tmps).run P w = .ok (.tuple #[.agg cs, .agg cs2]) w := by
  have hp' : tmps[p]?.getD undef = .pointer (some ⟨g, 0, none⟩) := by simpa using hp
  have hp2' : tmps[q]?.getD undef = .pointer (some ⟨g2, 0, none⟩) := by simpa using hp2
  simp [results, h, hp', hp2', asAddr, run_loadVar_row w g t ty cs fr d hg hu hd hi, run_loadVar_row w g2 t2 ty2 cs2 fr2 d2 hg2 hu2 hd2 hi2]
set_option maxHeartbeats 3200000 in
theorem clturn_calls (h m l s cap : Int) : TellsQ 49 #[.agg (climbC h m l s), .int .i64 cap] (.tuple #[.agg (climbC 0 0 (rateN h m) (stepN h m l s cap)), .int .i64 (farN h m l s)]) := by
  intro w0
  have c1 : TellsQ 69 #[.agg (climbC h m l s)] (.agg (climbC (fitN h) (fitN m) (fitL l) (fitS s))) := fit_calls h m l s
  have c2 := rate_calls (fitN h) (fitN m) (fitL l) (fitS s)
  rw [rateN_fit] at c2
  have c3 := kept_calls (farN h m l s) (farN_in h m l s).1 (farN_in h m l s).2
  have c4 := first_calls cap
  have hO := ((Owned.nil w0).alloc (.cells (climbC h m l s) 45)).alloc (.cells (climbC 0 0 0 0) 45)
  rw [show (w0.alloc (.cells (climbC h m l s) 45)).heap.size = w0.heap.size + 1 by simp] at hO
  have HO := Lib.hid hO.swap
  clear hO
  obtain ⟨r1, r2⟩ := rateN_in h m
  obtain ⟨l1, l2⟩ := fitL_in l
  obtain ⟨s1, s2⟩ := fitS_in s
  obtain ⟨k1, k2⟩ := firstN_in cap
  have hf : (rateN h m < fitL l ∧ farN h m l s = - fitS s) ∨ (¬ rateN h m < fitL l ∧ farN h m l s = fitS s) := by
    unfold farN
    by_cases hh : rateN h m < fitL l
    · exact .inl ⟨hh, if_pos hh⟩
    · exact .inr ⟨hh, if_neg hh⟩
  have hs : (3277 ≤ rateN h m - fitL l ∨ 3277 ≤ fitL l - rateN h m) ∧ farN h m l s < 0 ∧ stepN h m l s cap = - firstN cap ∨
      (3277 ≤ rateN h m - fitL l ∨ 3277 ≤ fitL l - rateN h m) ∧ ¬ farN h m l s < 0 ∧ stepN h m l s cap = firstN cap ∨
      ¬ (3277 ≤ rateN h m - fitL l ∨ 3277 ≤ fitL l - rateN h m) ∧ stepN h m l s cap = keptN (farN h m l s) := by
    unfold stepN
    by_cases h1 : 3277 ≤ rateN h m - fitL l ∨ 3277 ≤ fitL l - rateN h m
    · rw [if_pos h1]
      by_cases h2 : farN h m l s < 0
      · exact .inl ⟨h1, h2, if_pos h2⟩
      · exact .inr (.inl ⟨h1, h2, if_neg h2⟩)
    · rw [if_neg h1]
      exact .inr (.inr ⟨h1, rfl⟩)
  generalize stepN h m l s cap = st at *
  generalize farN h m l s = f at *
  generalize keptN f = kf at *
  generalize firstN cap = fi at *
  generalize rateN h m = r at *
  generalize fitN h = a at *
  generalize fitN m = b at *
  generalize fitL l = c at *
  generalize fitS s = d at *
  have HS := Lib.hid hs
  clear hs
  rcases hf with ⟨hlt, hfe⟩ | ⟨hlt, hfe⟩
  all_goals
    subst f
    go_enter Try.func49, Try.ntmps49
    go_wp2_with (first
      | (refine load_whole rfl _ _ rfl w0.heap.size rfl HO.out _ und_climb rfl info_climb ?_)
      | (go_at_call 69; refine (c1 _).mono ?_; rintro e w1 ⟨rfl, hb1⟩; have HO1 := Lib.hid (HO.out.under hb1); clear HO c1)
      | (refine store_whole rfl _ _ _ rfl w0.heap.size rfl HO1.out (climbC a b c d) rfl rfl info_climb (climb_one _ _ _ _) ?_; intro w2 hO2; have HO2 := Lib.hid hO2; clear hO2 HO1)
      | (refine load_whole rfl _ _ rfl w0.heap.size rfl HO2.out _ und_climb rfl info_climb ?_)
      | (go_at_call 70; refine (c2 _).mono ?_; rintro e w3 ⟨rfl, hb3⟩; have HO3 := Lib.hid (HO2.out.under hb3); clear HO2; have g2 : w3.cell? ⟨w0.heap.size, 2, none⟩ = some (.int .i64 c) := Owned.cell HO3.out 2; have g3 : w3.cell? ⟨w0.heap.size, 3, none⟩ = some (.int .i64 d) := Owned.cell HO3.out 3)
      | (go_at_call 71; refine (c3 _).mono ?_; rintro e w4 ⟨rfl, rfl⟩)
      | (refine store_whole rfl _ _ _ rfl (w0.heap.size + 1) rfl HO3.out.swap (climbC 0 0 r _) rfl rfl info_climb (climb_one _ _ _ _) ?_; intro w5 hO5; have HO5 := Lib.hid hO5; clear HO3 g2 g3; have g2 : w5.cell? ⟨w0.heap.size, 2, none⟩ = some (.int .i64 c) := Owned.cell hO5.swap 2; have q3 : w5.cell? ⟨w0.heap.size + 1, 3, none⟩ = some (.int .i64 _) := Owned.cell hO5 3; have f3 := Owned.frozen hO5 3; have hl5 := Owned.lt hO5; clear hO5)
      | (go_at_call 42; refine (c4 _).mono ?_; rintro e w6 ⟨rfl, rfl⟩)
      | (refine load_whole rfl _ _ rfl (w0.heap.size + 1) rfl HO5.out _ und_climb rfl info_climb ?_; have HO7 := HO5)
      | (refine load_whole rfl _ _ rfl (w0.heap.size + 1) rfl (HO5.out.set 3 _) _ und_climb rfl info_climb ?_; have HO7 := Lib.hid (HO5.out.set 3 (.int .i64 fi)))
      | (refine load_whole rfl _ _ rfl (w0.heap.size + 1) rfl ((HO5.out.set 3 _).set 3 _) _ und_climb rfl info_climb ?_; have HO7 := Lib.hid ((HO5.out.set 3 (.int .i64 fi)).set 3 (.int .i64 (-fi))))
      | (refine store_whole rfl _ _ _ rfl (w0.heap.size + 1) rfl HO7.out (climbC 0 0 r _) rfl rfl info_climb (climb_one _ _ _ _) ?_; intro w8 hO8; have HO8 := Lib.hid hO8; clear hO8))
    all_goals
      first
        | exact bodyPost_ret (results_cell_tmp rfl _ _ (w0.heap.size + 1) _ (climbC 0 0 r kf) _ _ rfl HO8.out.head und_climb rfl info_climb) rfl ⟨by rw [show st = kf by have := HS.out; omega]; rfl, HO8.out.below⟩
        | exact bodyPost_ret (results_cell_tmp rfl _ _ (w0.heap.size + 1) _ (climbC 0 0 r fi) _ _ rfl HO8.out.head und_climb rfl info_climb) rfl ⟨by rw [show st = fi by have := HS.out; omega]; rfl, HO8.out.below⟩
        | exact bodyPost_ret (results_cell_tmp rfl _ _ (w0.heap.size + 1) _ (climbC 0 0 r (-fi)) _ _ rfl HO8.out.head und_climb rfl info_climb) rfl ⟨by rw [show st = (-fi) by have := HS.out; omega]; rfl, HO8.out.below⟩
end Go.Proofs.Ytnhdjpeadhcajaa
