/- Layer 11, PolicyErrors: what tells an error changes nothing. -/
import Derived.Test.YtnhdjpeadhcajaaK47
namespace Go.Proofs.Ytnhdjpeadhcajaa
open Go.RowKit Go.Sep DqPure
set_option maxRecDepth 100000
section
variable {w0 : World}
theorem perr_out (cap seed : Int) (v : Value) (len : Nat) (f : Nat → Nat → Int) (d nd key wt : Int) (hv : ReadsR 4 w0 v len f) (h1 : 200 < len ∨ (len ≤ 200 ∧ 512 < cap)) :
    Calls Try.prog 8 #[.int .i64 cap, .int .i64 seed, v, .agg #[.int .i64 d, .int .i64 nd, .int .i64 key, .int .i64 wt]] w0 fun e w' => e = .returned (.bool true) ∧ Below w0.heap.size w0 w' := by
  obtain ⟨hl, -, A, c, rfl, -⟩ := hv
  have HO := Lib.hid ((Owned.nil w0).alloc (.cells #[.int .i64 d, .int .i64 nd, .int .i64 key, .int .i64 wt] 28))
  have cs := small_own HO.out
  rcases h1 with h1 | ⟨h1, h2⟩
  · go_enter Try.func8, Try.ntmps8
    go_wp2_with fail
    go_at_call 9
    refine (cs).mono ?_
    rintro e w1 ⟨rfl, hO1⟩
    have hb := hO1.below
    clear hO1
    go_wp2_with fail
    go_ret
    exact ⟨rfl, hb⟩
  · go_enter Try.func8, Try.ntmps8
    go_wp2_with fail
    go_at_call 9
    refine (cs).mono ?_
    rintro e w1 ⟨rfl, hO1⟩
    have hb := hO1.below
    clear hO1
    go_wp2_with fail
    go_ret
    exact ⟨rfl, hb⟩
set_option maxHeartbeats 6400000 in
theorem perr_walk (cap seed : Int) (v : Value) (len : Nat) (f : Nat → Nat → Int) (d nd key wt : Int) (hv : ReadsR 4 w0 v len f) (hnd : wfk nd) (hkey : wfk key) (h1 : len ≤ 200) (h2 : cap ≤ 512) :
    Calls Try.prog 8 #[.int .i64 cap, .int .i64 seed, v, .agg #[.int .i64 d, .int .i64 nd, .int .i64 key, .int .i64 wt]] w0 fun e w' => e = .returned (.bool true) ∧ Below w0.heap.size w0 w' := by
  have hev := EvIn.of_old (F := [evB w0.heap.size d nd key wt]) hv
  have hO0 : Owned w0 _ [evB w0.heap.size d nd key wt] := (Owned.nil w0).alloc (.cells #[.int .i64 d, .int .i64 nd, .int .i64 key, .int .i64 wt] 28)
  have cs := small_own hO0
  have hcell : ∀ (W : World) (q : Sep.Own), Owned w0 W (q ++ [evB w0.heap.size d nd key wt]) → W.cell? ⟨w0.heap.size, 0, none⟩ = some (.int .i64 d) ∧ W.cell? ⟨w0.heap.size, 1, none⟩ = some (.int .i64 nd) ∧ W.cell? ⟨w0.heap.size, 2, none⟩ = some (.int .i64 key) ∧ W.cell? ⟨w0.heap.size, 3, none⟩ = some (.int .i64 wt) := fun W q hO => ev_of hO
  obtain ⟨F, hF⟩ : ∃ F, [evB w0.heap.size d nd key wt] = F := ⟨_, rfl⟩
  rw [hF] at hev cs hcell
  clear hF hO0
  have HEV := Lib.hid hev
  have HCE := Lib.hid hcell
  have HND := Lib.hid hnd
  have HKEY := Lib.hid hkey
  obtain ⟨⟨A, c, rfl, -⟩, -⟩ := hev
  clear hv hnd hkey hcell
  have g1 : decide (200 < len) = false := by simp; omega
  have g2 : decide (200 < (len : Int)) = false := by simp; omega
  have g3 : decide (512 < cap) = false := by simp; omega
  go_enter Try.func8, Try.ntmps8
  go_wp2_with fail
  go_at_call 9
  refine (cs).mono ?_
  rintro e w1 ⟨rfl, hO1⟩
  have q1 := y_new cap seed hO1
  clear cs hO1
  go_wp2_with fail
  go_at_call 10
  refine (q1).mono ?_
  rintro e w2 ⟨gx, rfl, hs2⟩
  have q2 := b_new hs2 cap seed
  clear q1 hs2
  go_wp2_with fail
  go_at_call 10
  refine (q2).mono ?_
  rintro e w3 ⟨gy, rfl, hb3⟩
  have q3 := b_play hb3 HEV.out (by omega) (by omega)
  clear q2 hb3
  go_wp2_with fail
  go_at_call 16
  refine (q3).mono ?_
  rintro e w4 ⟨u4, r4, rfl, -, hb4⟩
  have hb4 := hb4.sub (List.sublist_append_right r4 F)
  have q4 := b_play hb4.swap HEV.out (by omega) (by omega)
  clear q3 hb4
  go_wp2_with fail
  go_at_call 16
  refine (q4).mono ?_
  rintro e w5 ⟨u5, r5, rfl, -, hb5⟩
  have hb5 := (hb5.sub (List.sublist_append_right r5 F)).swap
  obtain ⟨qq, hO5⟩ := hb5.own
  obtain ⟨e0, e1, e2, e3⟩ := HCE.out _ _ hO5
  generalize ((PSt.new cap seed).play (evL len f)).1 = P at *
  have q5 := b_do hb5 (by omega) d nd key wt HND.out HKEY.out
  clear q4 hb5 hO5
  obtain ⟨err, herr⟩ : ∃ err, (P.act d nd key wt).2.2 = err := ⟨_, rfl⟩
  have hbad := act_bad (P := P) (d := d) (nd := nd) (key := key) (wt := wt)
  rw [herr] at q5 hbad
  clear herr
  go_wp2_with fail
  go_at_call 12
  refine (q5).mono ?_
  rintro e w6 ⟨v6, r6, rfl, hr6, hb6⟩
  by_cases he : err = 0
  · have d1 : decide (err = 0) = true := by simp; exact he
    obtain ⟨qq, hO6⟩ := hb6.own
    have hbl := hO6.below
    clear hb6 hr6 q5 hO6 e0 e1 e2 e3 hbad
    subst he
    go_wp2_with fail
    go_ret
    exact ⟨rfl, hbl⟩
  · obtain ⟨ha1, ha2⟩ := hbad he
    rw [ha1] at hb6
    rw [ha2] at hr6
    obtain ⟨A6, c6, rfl⟩ := hr6.slice
    have HB := Lib.hid (hb6.sub (List.sublist_append_right r6 F))
    have d1 : decide (err = 0) = false := by simp; exact he
    have d2 : (err == 0) = false := by simp; exact he
    clear hb6 hr6 q5 e0 e1 e2 e3 hbad ha1 ha2
    go_wp2_with fail
    go_loopw [14] (fun x wr => ∃ i : Nat, i ≤ 3 ∧ x = .int .i64 i ∧ Hid (∃ kx ky, kx ≤ 100000 ∧ ky ≤ 100000 ∧ Both w0 F gx kx P gy ky P wr)) (fun x _ => 3 - (intOf x).toNat)
    case atStart => exact ⟨0, by omega, rfl, Lib.hid ⟨_, _, by omega, by omega, HB.out⟩⟩
    case round =>
      obtain ⟨i, hi, rfl, hb⟩ := hrel
      obtain ⟨kx, ky, hkx, hky, hb⟩ := hb.out
      clear HB
      by_cases hlt : i < 3
      · have q7 := b_row hb (by omega) (i : Int)
        clear hb
        go_wp2_with fail
        go_at_call 13
        refine (q7).mono ?_
        rintro e w7 ⟨v7, r7, rfl, hr7, hb7⟩
        have q8 := b_row hb7.swap (by omega) (i : Int)
        have HR7 := Lib.hid hr7
        clear q7 hb7 hr7
        go_wp2_with fail
        go_at_call 13
        refine (q8).mono ?_
        rintro e w8 ⟨v8, r8, rfl, hr8, hb8⟩
        have hi1 := ints_calls v7 v8 _ _ _ ((hb8.perm (perm2 r8 r7 F)).reads HR7.out) (hb8.reads hr8)
        rw [decide_eq_true rfl] at hi1
        have HB8 := Lib.hid hb8.swap
        clear q8 hb8 hr8
        go_wp2_with fail
        go_at_call 15
        refine (hi1).mono ?_
        rintro e w9 ⟨rfl, m9, rfl⟩
        have hb9 := HB8.out.under (show Below _ _ (w8.drewN m9) from ⟨rfl, rfl, rfl, Nat.le_refl _, fun _ _ => rfl⟩)
        have HB9 := Lib.hid ((hb9.sub (List.sublist_append_right r8 _)).sub (List.sublist_append_right r7 F))
        clear hi1 hb9 HB8
        generalize w8.drewN m9 = w9 at *
        go_wp2_with fail
        go_roundw
        case rel => exact ⟨i + 1, hlt, by go_num, Lib.hid ⟨kx, ky, hkx, hky, HB9.out⟩⟩
        case measure => simp [intOf]; omega
      · obtain rfl : i = 3 := by omega
        obtain ⟨rx, hs⟩ := hb.first
        obtain ⟨ry, hs2⟩ := hb.swap.first
        obtain ⟨qq, hO5⟩ := hb.own
        obtain ⟨e0, e1, e2, e3⟩ := HCE.out _ _ hO5
        have e2q := cell_regrown e2
        have w1q := fun d os => y_weight (hs.under (below_regrown wr d os)) (by omega)
        have w2q := fun d os => y_weight (hs2.under (below_regrown wr d os)) (by omega)
        have z1q := fun d os => y_quota (hs.under (below_regrown wr d os))
        have z2q := fun d os => y_quota (hs2.under (below_regrown wr d os))
        have l1q := fun d os => y_climb (hs.under (below_regrown wr d os))
        have l2q := fun d os => y_climb (hs2.under (below_regrown wr d os))
        have o1q := fun d os => y_often (hs.under (below_regrown wr d os)) key
        have o2q := fun d os => y_often (hs2.under (below_regrown wr d os)) key
        have HOB := Lib.hid hO5.below
        clear hb hs hs2 hO5 e0 e1 e2 e3
        generalize P.oft key = of_ at *
        generalize P.wt = wt_ at *
        generalize P.cap = cap_ at *
        generalize P.qw = qw_ at *
        generalize P.pq = pq_ at *
        generalize P.ch = ch_ at *
        generalize P.cm = cm_ at *
        generalize P.cl = cl_ at *
        generalize P.cs = cs_ at *
        go_wp2_with fail
        refine wp_region_quiet_below (by kernel_rfl) (by kernel_rfl) ?_
        repeat (first | go_big_quiet_step ((first | (go_at_call 14; with_reducible exact Calls.regrown_of (w1q _ _)) | (go_at_call 14; with_reducible exact Calls.regrown_of (w2q _ _)) | (go_at_call 17; with_reducible exact Calls.regrown_of (z1q _ _)) | (go_at_call 17; with_reducible exact Calls.regrown_of (z2q _ _)) | (go_at_call 18; with_reducible exact Calls.regrown_of (l1q _ _)) | (go_at_call 18; with_reducible exact Calls.regrown_of (l2q _ _)) | (go_at_call 19; with_reducible exact Calls.regrown_of (o1q _ _)) | (go_at_call 19; with_reducible exact Calls.regrown_of (o2q _ _)))) | quiet_step ((first | (go_at_call 14; with_reducible exact Calls.regrown_of (w1q _ _)) | (go_at_call 14; with_reducible exact Calls.regrown_of (w2q _ _)) | (go_at_call 17; with_reducible exact Calls.regrown_of (z1q _ _)) | (go_at_call 17; with_reducible exact Calls.regrown_of (z2q _ _)) | (go_at_call 18; with_reducible exact Calls.regrown_of (l1q _ _)) | (go_at_call 18; with_reducible exact Calls.regrown_of (l2q _ _)) | (go_at_call 19; with_reducible exact Calls.regrown_of (o1q _ _)) | (go_at_call 19; with_reducible exact Calls.regrown_of (o2q _ _)))))
        refine wpQuiet_nil ?_
        intro _ hw'
        obtain ⟨⟨dq, osq⟩, hw''⟩ := hw'
        subst hw''
        have HBF := Lib.hid (below_regrown wr dq osq)
        generalize (Go.Sort.grow (redrawn wr dq) osq) = wf at *
        clear w1q w2q z1q z2q l1q l2q o1q o2q e2q
        go_wp2_with fail
        go_ret
        exact ⟨rfl, HOB.out.trans (HBF.out.mono HOB.out.size)⟩
end
end Go.Proofs.Ytnhdjpeadhcajaa
