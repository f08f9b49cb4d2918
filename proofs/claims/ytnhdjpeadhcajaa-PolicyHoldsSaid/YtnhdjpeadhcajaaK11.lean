/- Merged texts: Layer 3: a key is counted. Layer 3: a key is counted: the walk. -/
import Derived.Test.YtnhdjpeadhcajaaK10
import Derived.Lib.QuietBelow
namespace Go.Proofs.Ytnhdjpeadhcajaa
open Go.RowKit NibPure Go.Sep
def inN (x m : Nat) : Nat := if dg x m < 15 then st x m (dg x m + 1) else x
theorem inN_lt (x : Nat) (hx : x < 18446744073709551616) (m : Nat) (hm : m < 16) : inN x m < 18446744073709551616 := by
  unfold inN
  split
  · exact st_lt (m := 16) hx hm (by omega)
  · exact hx
theorem inN_calls (x : Nat) (hx : x < 18446744073709551616) (m : Nat) (hm : m < 16) : Tells 67 #[.int .u64 x, .int .i64 m] (.tuple #[.int .u64 (inN x m), .bool (decide (dg x m < 15))]) := by
  unfold inN
  by_cases hd : dg x m < 15
  · rw [if_pos hd, decide_eq_true hd]; exact inc_in x hx m hm hd
  · rw [if_neg hd, decide_eq_false hd]; exact inc_full x hx m hm (by have := dg_lt x m; omega)
theorem inN_dg (x m j : Nat) : dg (inN x m) j = if j = m then min (dg x m + 1) 15 else dg x j := by
  have hl := dg_lt x m
  unfold inN
  split
  · rw [dg_st x m j (by omega)]
    split <;> omega
  · split
    · next e => subst e; omega
    · rfl
def anyS (S : Nat → Nat → Nat) (p : Nat → Nat) : Nat → Bool
  | 0 => false
  | k + 1 => anyS S p k || decide (S k (p k) < 15)
/-- the counters behind an add -/
def addS (S : Nat → Nat → Nat) (p : Nat → Nat) (K i c : Nat) : Nat := if i < K ∧ c = p i then min (S i c + 1) 15 else S i c
section
variable {g n N : Nat} {seed : Int} {rb : Nat → Nat} {rw : Nat → List Nat} {w0 w : World} {F : Own}
def AddRel (w0 : World) (F : Own) (g n N : Nat) (seed : Int) (rb : Nat → Nat) (rw : Nat → List Nat) (p : Nat → Nat) (k : Nat) (w : World) : Prop :=
  ∃ rw', Owned w0 w (skB g seed n N rb rw' ++ F) ∧ Rows n rw' ∧ ∀ i c, i < 4 → c < 16 * n → cS rw' i c = addS (cS rw) p k i c
theorem AddRel.step {p : Nat → Nat} {k : Nat} {rw' : Nat → List Nat} (hk : k < 4) (hp : p k < 16 * n) (hO : Owned w0 w (skB g seed n N rb rw' ++ F)) (hR : Rows n rw') (hv : ∀ i c, i < 4 → c < 16 * n → cS rw' i c = addS (cS rw) p k i c) :
    AddRel w0 F g n N seed rb rw p (k + 1) (w.setCell ⟨rb k, p k / 16, none⟩ (.int .u64 ((inN ((rw' k).getD (p k / 16) 0) (p k % 16) : Nat) : Int))) := by
  refine ⟨_, sk_set hO hk _ _, hR.updl k _ _ (inN_lt _ (hR.lt _ _) _ (by omega)), fun i c hi hc => ?_⟩
  have h0 := hv i c hi hc
  unfold addS at *
  show dg ((updl rw' k (p k / 16) _ i).getD (c / 16) 0) (c % 16) = _
  rw [upd_get hR hk (show p k / 16 < n by omega)]
  by_cases e : i = k ∧ c / 16 = p k / 16
  · obtain ⟨rfl, e2⟩ := e
    rw [if_pos ⟨rfl, e2⟩, inN_dg]
    by_cases e3 : c % 16 = p i % 16
    · have e4 : c = p i := by omega
      rw [if_pos e3, if_pos ⟨by omega, e4⟩]
      rw [if_neg (by omega)] at h0
      rw [← h0, e4]
      rfl
    · rw [if_neg e3, if_neg (fun h => e3 (by rw [h.2]))]
      rw [if_neg (by omega)] at h0
      rw [← h0, ← e2]
      rfl
  · rw [if_neg e]
    show cS rw' i c = _
    rw [h0]
    by_cases e5 : i < k ∧ c = p i
    · rw [if_pos e5, if_pos ⟨by omega, e5.2⟩]
    · rw [if_neg e5, if_neg (fun h => e ⟨by
        have : ¬ i < k := fun h2 => e5 ⟨h2, h.2⟩
        omega, by
        have : ¬ i < k := fun h2 => e5 ⟨h2, h.2⟩
        have e6 : i = k := by omega
        rw [h.2, e6]⟩)]
end
end Go.Proofs.Ytnhdjpeadhcajaa
namespace Go.Proofs.Ytnhdjpeadhcajaa
open Go.RowKit NibPure Go.Sep
section
variable {g n N : Nat} {seed : Int} {rb : Nat → Nat} {rw : Nat → List Nat} {w0 w : World} {F : Own}
def AddPost (w0 : World) (F : Own) (g n N : Nat) (seed : Int) (rb : Nat → Nat) (S : Nat → Nat → Nat) (w : World) : Prop :=
  ∃ rw', Owned w0 w (skB g seed n N rb rw' ++ F) ∧ Rows n rw' ∧ ∀ i c, i < 4 → c < 16 * n → cS rw' i c = S i c
/-- what an add answers and leaves -/
def AddOut (w0 : World) (F : Own) (g n N : Nat) (seed : Int) (rb : Nat → Nat) (S : Nat → Nat → Nat) (more : Bool) (e : Ending) (w' : World) : Prop :=
  if more = true then
    if 160 * n ≤ N + 1 then e = .returned (.tuple #[.bool true, .bool true]) ∧ AddPost w0 F g n ((N + 1) / 2) seed rb (fun i c => S i c / 2) w'
    else e = .returned (.tuple #[.bool true, .bool false]) ∧ AddPost w0 F g n (N + 1) seed rb S w'
  else e = .returned (.tuple #[.bool false, .bool false]) ∧ AddPost w0 F g n N seed rb S w'
set_option maxHeartbeats 3200000 in
set_option maxRecDepth 100000 in
theorem sk_add (key : Int) (hn1 : 1 ≤ n) (hn2 : n ≤ 4096) (hN : N < 160 * n) (hR : Rows n rw) (h : Owned w0 w (skB g seed n N rb rw ++ F)) :
    Calls Try.prog 45 #[.pointer (some ⟨g, 0, none⟩), .int .i64 key] w fun e w' =>
      AddOut w0 F g n N seed rb (addS (cS rw) (plS seed key (16 * n)) 4) (anyS (cS rw) (plS seed key (16 * n)) 4) e w' := by
  have cp := skp_calls key seed g (16 * n) (by omega) w (sk_c0 h) (sk_c1 h)
  have hp := fun k => plS_lt seed key (show 1 ≤ 16 * n by omega) k
  generalize plS seed key (16 * n) = p at *
  have HP := Lib.hid hp
  have HR := Lib.hid hR
  have HO := Lib.hid h
  have ha : ∀ k, anyS (cS rw) p (k + 1) = (anyS (cS rw) p k || decide (cS rw k (p k) < 15)) := fun k => rfl
  have HA := Lib.hid ha
  clear hp h ha hR
  go_enter Try.func45, Try.ntmps45
  go_wp2_with fail
  go_at_call 66
  refine (cp).mono ?_
  rintro e w1 ⟨rfl, hb1⟩
  have HO1 := Lib.hid (show AddRel w0 F g n N seed rb rw p 0 w1 from ⟨rw, HO.out.under hb1, HR.out, fun i c _ _ => by unfold addS; rw [if_neg (by omega)]⟩)
  clear cp hb1 HO
  generalize hM : anyS (cS rw) p = M at *
  go_wp2_with fail
  go_loopw [4, 13] (fun x4 x13 wr => ∃ k : Nat, k ≤ 4 ∧ x13 = .int .i64 k ∧ x4 = .bool (M k) ∧ Hid (AddRel w0 F g n N seed rb rw p k wr)) (fun _ x13 _ => 4 - (intOf x13).toNat)
  case atStart => exact ⟨0, by omega, rfl, by rw [← hM]; rfl, HO1⟩
  case round =>
    have HMM := Lib.hid hM
    clear HO1 hM
    obtain ⟨k, hk, rfl, rfl, hrel⟩ := hrel
    obtain ⟨rw', hO, hR', hv⟩ := hrel.out
    by_cases hlt : k < 4
    · have hix := fun w => index4 p w k hlt
      have hpk := HP.out k
      have cr := sk_row hO k hlt
      have hq : p k / 16 < n := by omega
      have cw := sk_word hO hlt (q := p k / 16) (by rw [hR'.len k hlt]; exact hq)
      have cf := sk_free hO hlt (p k / 16)
      have cg := inN_calls _ (hR'.lt k (p k / 16)) (p k % 16) (by omega)
      have HNEW := Lib.hid (AddRel.step hlt hpk hO hR' hv)
      have hmk := HA.out k
      have hval : dg ((rw' k).getD (p k / 16) 0) (p k % 16) = cS rw k (p k) := by
        have := hv k (p k) hlt hpk
        unfold addS at this
        rw [if_neg (by omega)] at this
        exact this
      rw [hval] at cg
      have k1 := div16 (p k)
      have k2 := mod16 (p k)
      generalize decide (cS rw k (p k) < 15) = bit at *
      have HK := Lib.hid hmk
      clear hmk hval hv hR' hO hrel
      generalize inN ((rw' k).getD (p k / 16) 0) (p k % 16) = y at *
      generalize (rw' k).getD (p k / 16) 0 = x at *
      generalize p k / 16 = q at *
      generalize p k % 16 = m at *
      generalize p k = pk at *
      generalize M k = mk at *
      have k3 : ((q : Nat) : Int) < (n : Int) := by omega
      cases mk
      all_goals
        go_wp2_with fail
        go_at_call 67
        refine (cg _).mono ?_
        rintro e w2 ⟨rfl, rfl⟩
        go_wp2_with fail
        go_roundw
        case rel => exact ⟨k + 1, by omega, by go_num, by rw [HK.out]; rfl, HNEW⟩
        case measure => simp [intOf]; omega
    · obtain rfl : k = 4 := by omega
      have c2 := sk_c2 hO
      have cf2 : wr.frozen? ⟨g, 2, none⟩ = false := Owned.frozen hO 2
      have HOO := Lib.hid hO
      have HRR := Lib.hid hR'
      have HV := Lib.hid hv
      clear hrel hO hR' hv
      cases hm4 : M 4 with
      | false =>
        have HM4 := Lib.hid hm4
        clear c2 cf2 hm4
        go_wp2_with fail
        go_ret2
        unfold AddOut
        rw [HMM.out, HM4.out, if_neg (by simp)]
        exact ⟨rfl, rw', HOO.out, HRR.out, HV.out⟩
      | true =>
        have HM4 := Lib.hid hm4
        clear hm4
        have hset : Owned w0 (wr.setCell ⟨g, 2, none⟩ (.int .i64 ((N : Int) + 1))) (skB g seed n (N + 1) rb rw' ++ F) := by
          rw [show (N : Int) + 1 = ((N + 1 : Nat) : Int) by omega]
          exact Owned.set HOO.out 2 (.int .i64 ((N + 1 : Nat) : Int))
        have HSET := Lib.hid hset
        have d0 := cell_regrown (sk_c0 hset)
        have d2 := cell_regrown (sk_c2 hset)
        rw [show ((N + 1 : Nat) : Int) = (N : Int) + 1 by omega] at d2
        rw [show ((16 * n : Nat) : Int) = 16 * (n : Int) by omega] at d0
        clear hset HOO
        go_wp2_with fail
        clear c2 cf2
        refine wp_region_quiet_below (by kernel_rfl) (by kernel_rfl) ?_
        repeat (first | go_big_quiet_step (fail) | quiet_step (fail))
        refine wpQuiet_nil ?_
        intro _ hw'
        obtain ⟨⟨dq, osq⟩, hw''⟩ := hw'
        subst hw''
        have HO4 := Lib.hid (HSET.out.under (below_regrown _ dq osq))
        generalize (Go.Sort.grow (redrawn (wr.setCell ⟨g, 2, none⟩ (.int .i64 ((N : Int) + 1))) dq) osq) = w4 at *
        clear d0 d2 HSET
        by_cases hage : 160 * n ≤ N + 1
        · have ch := sk_halve HRR.out hn2 (by omega) HO4.out
          go_wp2_with fail
          go_at_call 68
          refine (ch).mono ?_
          rintro e w5 ⟨rfl, rw5, hO5, hR5, hv5⟩
          have HO5 := Lib.hid hO5
          clear ch hO5
          go_wp2_with fail
          go_ret2
          unfold AddOut
          rw [HMM.out, HM4.out, if_pos rfl, if_pos hage]
          refine ⟨rfl, rw5, HO5.out, hR5, fun i c hi hc => ?_⟩
          show dg ((rw5 i).getD (c / 16) 0) (c % 16) = _
          rw [hv5 i (c / 16) hi (by omega), halfN_dg _ _ (by omega)]
          exact congrArg (· / 2) (HV.out i c hi hc)
        · have hdec : decide (10 * (16 * (n : Int)) ≤ (N : Int) + 1) = false := decide_eq_false (by omega)
          go_wp2_with fail
          go_ret2
          unfold AddOut
          rw [HMM.out, HM4.out, if_pos rfl, if_neg hage]
          refine ⟨?_, rw', HO4.out, HRR.out, HV.out⟩
          show Ending.returned (.tuple #[.bool true, .bool (decide (10 * (16 * (n : Int)) ≤ (N : Int) + 1))]) = _
          rw [hdec]
end
end Go.Proofs.Ytnhdjpeadhcajaa
