/- Layer 11, PolicyHot: a read lets none go, changes no weight, and lets a node be in the window only if it was. -/
import Derived.Test.YtnhdjpeadhcajaaK49
namespace Go.Proofs.Ytnhdjpeadhcajaa
open Go.RowKit Go.Sep DqPure
set_option maxRecDepth 100000
section
variable {w0 : World}
theorem phot_out (cap seed : Int) (v : Value) (len : Nat) (f : Nat → Nat → Int) (id : Int) (hv : ReadsR 4 w0 v len f) (h1 : 200 < len ∨ (len ≤ 200 ∧ cap < 0) ∨ (len ≤ 200 ∧ 0 ≤ cap ∧ 512 < cap)) :
    Calls Try.prog 6 #[.int .i64 cap, .int .i64 seed, v, .int .i64 id] w0 fun e w' => e = .returned (.bool true) ∧ Below w0.heap.size w0 w' := by
  obtain ⟨hl, -, A, c, rfl, -⟩ := hv
  have cs := small_calls w0
  rcases h1 with h1 | ⟨h1, h2⟩ | ⟨h1, h2, h3⟩
  · go_enter Try.func6, Try.ntmps6
    go_wp2_with fail
    go_at_call 9
    refine (cs).mono ?_
    rintro e w1 ⟨rfl, hb⟩
    go_wp2_with fail
    go_ret
    exact ⟨rfl, hb⟩
  · go_enter Try.func6, Try.ntmps6
    go_wp2_with fail
    go_at_call 9
    refine (cs).mono ?_
    rintro e w1 ⟨rfl, hb⟩
    go_wp2_with fail
    go_ret
    exact ⟨rfl, hb⟩
  · go_enter Try.func6, Try.ntmps6
    go_wp2_with fail
    go_at_call 9
    refine (cs).mono ?_
    rintro e w1 ⟨rfl, hb⟩
    go_wp2_with fail
    go_ret
    exact ⟨rfl, hb⟩
set_option maxHeartbeats 12800000 in
theorem phot_walk (cap seed : Int) (v : Value) (len : Nat) (f : Nat → Nat → Int) (id : Int) (hv : ReadsR 4 w0 v len f) (hid : wfk id) (h1 : len ≤ 200) (h2 : 0 ≤ cap ∧ cap ≤ 512) :
    Calls Try.prog 6 #[.int .i64 cap, .int .i64 seed, v, .int .i64 id] w0 fun e w' => e = .returned (.bool true) ∧ Below w0.heap.size w0 w' := by
  obtain ⟨F, hF⟩ : ∃ F : Sep.Own, [] = F := ⟨_, rfl⟩
  have hO0 : Owned w0 w0 F := by rw [← hF]; exact Owned.nil w0
  have cs := small_own hO0
  have hev := EvIn.of_old (F := F) hv
  have HEV := Lib.hid hev
  have HID := Lib.hid hid
  obtain ⟨-, -, A, c, rfl, -⟩ := hv
  have g1 : decide (200 < len) = false := by simp; omega
  have g2 : decide (200 < (len : Int)) = false := by simp; omega
  have g3 : decide (512 < cap) = false := by simp; omega
  have g4 : decide (cap < 0) = false := by simp; omega
  clear hF hO0 hev hid
  go_enter Try.func6, Try.ntmps6
  go_wp2_with fail
  go_at_call 9
  refine (cs).mono ?_
  rintro e w1 ⟨rfl, hO1⟩
  have q1 := y_new cap seed hO1
  clear cs hO1
  go_wp2_with fail
  go_at_call 10
  refine (q1).mono ?_
  rintro e w2 ⟨g, rfl, hs2⟩
  have q2 := p_play HEV.out (by omega) (by omega) hs2
  have hG := play_good (evL len f) _ (new_good cap seed)
  clear q1 hs2 HEV
  go_wp2_with fail
  go_at_call 16
  refine (q2).mono ?_
  rintro e w3 ⟨v3, r3, rfl, hr3, hs3⟩
  have HS0 := Lib.hid (hs3.sub (List.sublist_append_right r3 F))
  clear q2 hr3 hs3
  generalize ((PSt.new cap seed).play (evL len f)).1 = P at *
  go_wp2_with fail
  go_loopw [11, 12] (fun xa xb wr => ∃ i : Nat, i ≤ 3 ∧ xb = .int .i64 (i : Int) ∧ xa = .int .i64 (wasN P id i) ∧ Hid (Stands w0 F g (0 + 2 * len) P wr)) (fun _ xb _ => 3 - (intOf xb).toNat)
  case atStart => exact ⟨0, by omega, rfl, rfl, HS0⟩
  case round =>
    obtain ⟨i, hi, rfl, rfl, hs⟩ := hrel
    replace hs := hs.out
    by_cases hlt : i < 3
    · have q7 := y_row hs (by omega) (i : Int)
      clear hs
      go_wp2_with fail
      go_at_call 13
      refine (q7).mono ?_
      rintro e w7 ⟨v7, r7, rfl, hr7, hs7⟩
      have hh := has_calls v7 _ id _ (hs7.reads hr7)
      have HS7 := Lib.hid (hs7.sub (List.sublist_append_right r7 F))
      obtain ⟨b, hb⟩ : ∃ b, decide (id ∈ P.row (i : Int)) = b := ⟨_, rfl⟩
      have hwas : wasN P id (i + 1) = if b = true then (i : Int) else wasN P id i := by rw [← hb]; rfl
      rw [hb] at hh
      clear q7 hs7 hr7 hb
      have HWAS := Lib.hid hwas
      clear hwas
      go_wp2_with fail
      go_at_call 11
      refine (hh).mono ?_
      rintro e w8 ⟨rfl, rfl⟩
      cases b with
      | true =>
        go_wp2_with fail
        go_roundw
        case rel => exact ⟨i + 1, hlt, by go_num, by rw [HWAS.out]; rfl, HS7⟩
        case measure => simp [intOf]; omega
      | false =>
        go_wp2_with fail
        go_roundw
        case rel => exact ⟨i + 1, hlt, by go_num, by rw [HWAS.out]; rfl, HS7⟩
        case measure => simp [intOf]; omega
    · obtain rfl : i = 3 := by omega
      obtain ⟨y1, y2, y3, y4⟩ := was_3 hG id
      obtain ⟨z1, z2⟩ := act_read hG id
      have HZ := Lib.hid (And.intro z1 z2)
      have HG := Lib.hid hG
      have q4 := y_weight hs (by omega)
      clear z1 z2 hG HS0
      generalize hwz : wasN P id 3 = was at *
      go_wp2_with fail
      go_at_call 14
      refine (q4).mono ?_
      rintro e w4 ⟨rfl, hb4⟩
      have q5 := y_do (hs.under hb4) (by omega) 2 id 0 0 HID.out (wfk_of (by omega) (by omega))
      clear q4 hs hwz
      cases hh : P.has id with
      | false =>
        rw [hh] at y2
        rw [HZ.out.1 hh] at q5
        have d2 : decide (was < 0) = true := y2
        clear y1 y2
        go_wp2_with fail
        go_at_call 12
        refine (q5).mono ?_
        rintro e w5 ⟨v5, r5, rfl, hr5, hs5⟩
        obtain ⟨A5, c5, rfl⟩ := hr5.slice
        have hbl := hs5.below
        clear q5 hr5 hs5
        go_wp2_with fail
        go_ret
        exact ⟨rfl, hbl⟩
      | true =>
        rw [hh] at y2
        rw [HZ.out.2 hh] at q5
        have d2 : decide (was < 0) = false := y2
        obtain ⟨rp, -, -⟩ := all_read HG.out hh
        have hG2 : GoodP (P.read id) := HG.out.of_perm rp (all_read HG.out hh).2.1 (all_read HG.out hh).2.2
        have hwt : (P.read id).wt = P.wt := by rw [all_wt, all_wt, sumW_perm rp]
        have hia := read_a P id
        have HWT := Lib.hid hwt
        have HIA := Lib.hid hia
        have HG2 := Lib.hid hG2
        clear y2 rp hwt hia hG2
        go_wp2_with fail
        go_at_call 12
        refine (q5).mono ?_
        rintro e w5 ⟨v5, r5, rfl, hr5, hs5⟩
        obtain ⟨A5, c5, rfl⟩ := hr5.slice
        have HS0 := Lib.hid (hs5.sub (List.sublist_append_right r5 F))
        clear q5 hr5 hs5 hb4
        generalize hP2 : P.read id = P2 at *
        clear hP2
        go_wp2_with fail
        go_loopw [16, 17] (fun xa xb wr => ∃ i : Nat, i ≤ 3 ∧ xb = .int .i64 (i : Int) ∧ xa = .int .i64 (wasN P2 id i) ∧ Hid (Stands w0 F g (0 + 2 * len + 2) P2 wr)) (fun _ xb _ => 3 - (intOf xb).toNat)
        case atStart => exact ⟨0, by omega, rfl, rfl, HS0⟩
        case round =>
          obtain ⟨i, hi, rfl, rfl, hs⟩ := hrel
          replace hs := hs.out
          by_cases hlt : i < 3
          · have q7 := y_row hs (by omega) (i : Int)
            clear hs
            go_wp2_with fail
            go_at_call 13
            refine (q7).mono ?_
            rintro e w7 ⟨v7, r7, rfl, hr7, hs7⟩
            have hh := has_calls v7 _ id _ (hs7.reads hr7)
            have HS7 := Lib.hid (hs7.sub (List.sublist_append_right r7 F))
            obtain ⟨b, hb⟩ : ∃ b, decide (id ∈ P2.row (i : Int)) = b := ⟨_, rfl⟩
            have hwas : wasN P2 id (i + 1) = if b = true then (i : Int) else wasN P2 id i := by rw [← hb]; rfl
            rw [hb] at hh
            clear q7 hs7 hr7 hb
            have HWAS := Lib.hid hwas
            clear hwas
            go_wp2_with fail
            go_at_call 11
            refine (hh).mono ?_
            rintro e w8 ⟨rfl, rfl⟩
            cases b with
            | true =>
              go_wp2_with fail
              go_roundw
              case rel => exact ⟨i + 1, hlt, by go_num, by rw [HWAS.out]; rfl, HS7⟩
              case measure => simp [intOf]; omega
            | false =>
              go_wp2_with fail
              go_roundw
              case rel => exact ⟨i + 1, hlt, by go_num, by rw [HWAS.out]; rfl, HS7⟩
              case measure => simp [intOf]; omega
          · obtain rfl : i = 3 := by omega
            obtain ⟨x1, x2, x3, x4⟩ := was_3 HG2.out id
            rw [HIA.out] at x1
            have q8 := y_weight hs (by omega)
            rw [HWT.out] at q8
            clear HS0
            generalize wasN P2 id 3 = now at *
            generalize inL id P.a = ib at *
            generalize P.wt = wt_ at *
            clear x2 HWT HG2 HIA HG HZ
            go_wp2_with fail
            go_at_call 14
            refine (q8).mono ?_
            rintro e w9 ⟨rfl, hb9⟩
            have hbl := (hs.under hb9).below
            clear q8 hs hb9
            cases ib with
            | true =>
              have b1 : (was == 0) = true := by simpa using y1
              have b2 : (now == 0) = true := by simpa using x1
              go_wp2_with fail
              go_ret
              exact ⟨rfl, hbl⟩
            | false =>
              have b1 : (was == 0) = false := by simpa using y1
              have b2 : (now == 0) = false := by simpa using x1
              go_wp2_with fail
              go_ret
              exact ⟨rfl, hbl⟩
end
end Go.Proofs.Ytnhdjpeadhcajaa
