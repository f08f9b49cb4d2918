/- Merged texts: Layer 11: a hit, or a miss, is counted. -/
import Derived.Test.YtnhdjpeadhcajaaK36
import Derived.BigQuiet
import Derived.Lib.QuietBelow
import Derived.Deep.MidRow
import Derived.Deep.CutBlock
import Derived.Deep.DeepCutAuto
namespace Go.Proofs.Ytnhdjpeadhcajaa
open Go.RowKit Go.Sep DqPure
set_option maxRecDepth 100000
section
variable {g gf gd gm k n : Nat} {P : PSt} {rf rd r F : Own} {o : Obj} {w0 w : World}
theorem polB_setc (h : Owned w0 w (polB g gf gd gm P o ++ F)) (a b c d : Int) : Owned w0 (w.setCells g 8 [.int .i64 a, .int .i64 b, .int .i64 c, .int .i64 d]) (polB g gf gd gm { P with ch := a, cm := b, cl := c, cs := d } o ++ F) :=
  Owned.sets [.int .i64 a, .int .i64 b, .int .i64 c, .int .i64 d] 8 w _ h
theorem polB_setq (h : Owned w0 w (polB g gf gd gm P o ++ F)) (b : Int) : Owned w0 (w.setCells g 5 [.int .i64 P.cap, .int .i64 b, .int .i64 (pr P.cap b)]) (polB g gf gd gm { P with qw := b } o ++ F) :=
  Owned.sets [.int .i64 P.cap, .int .i64 b, .int .i64 (pr P.cap b)] 5 w _ h
theorem polB_there (h : Owned w0 w (polB g gf gd gm P o ++ F)) (i j : Nat) (hi : i + j ≤ 12) : w.there g i j := Owned.there h i j (by simpa [polC] using hi)
theorem polB_cc (h : Owned w0 w (polB g gf gd gm P o ++ F)) : w.cell? ⟨g, 8, none⟩ = some (.int .i64 P.ch) ∧ w.cell? ⟨g, 9, none⟩ = some (.int .i64 P.cm) ∧ w.cell? ⟨g, 10, none⟩ = some (.int .i64 P.cl) ∧ w.cell? ⟨g, 11, none⟩ = some (.int .i64 P.cs) :=
  ⟨(polB_cell h 8).trans rfl, (polB_cell h 9).trans rfl, (polB_cell h 10).trans rfl, (polB_cell h 11).trans rfl⟩
theorem polB_cq (h : Owned w0 w (polB g gf gd gm P o ++ F)) : w.cell? ⟨g, 5, none⟩ = some (.int .i64 P.cap) ∧ w.cell? ⟨g, 6, none⟩ = some (.int .i64 P.qw) ∧ w.cell? ⟨g, 7, none⟩ = some (.int .i64 P.pq) :=
  ⟨(polB_cell h 5).trans rfl, (polB_cell h 6).trans rfl, (polB_cell h 7).trans rfl⟩
theorem polB_four {P' : PSt} (e : { P with ch := P'.ch, cm := P'.cm, cl := P'.cl, cs := P'.cs } = P') (h : Owned w0 w (polB g gf gd gm P o ++ F)) : Owned w0 ((((w.setCell ⟨g, 8, none⟩ (.int .i64 P'.ch)).setCell ⟨g, 9, none⟩ (.int .i64 P'.cm)).setCell ⟨g, 10, none⟩ (.int .i64 P'.cl)).setCell ⟨g, 11, none⟩ (.int .i64 P'.cs)) (polB g gf gd gm P' o ++ F) := by
  have h2 : Owned w0 ((((w.setCell ⟨g, 8, none⟩ (.int .i64 P'.ch)).setCell ⟨g, 9, none⟩ (.int .i64 P'.cm)).setCell ⟨g, 10, none⟩ (.int .i64 P'.cl)).setCell ⟨g, 11, none⟩ (.int .i64 P'.cs)) (polB g gf gd gm { P with ch := P'.ch, cm := P'.cm, cl := P'.cl, cs := P'.cs } o ++ F) := Owned.set (Owned.set (Owned.set (Owned.set h 8 _) 9 _) 10 _) 11 _
  rw [e] at h2
  exact h2
theorem polB_three (h : Owned w0 w (polB g gf gd gm P o ++ F)) (b : Int) : Owned w0 (((w.setCell ⟨g, 5, none⟩ (.int .i64 P.cap)).setCell ⟨g, 6, none⟩ (.int .i64 b)).setCell ⟨g, 7, none⟩ (.int .i64 (pr P.cap b))) (polB g gf gd gm { P with qw := b } o ++ F) :=
  Owned.set (Owned.set (Owned.set h 5 _) 6 _) 7 _
theorem polB_seven {P' : PSt} (e : { P with ch := P'.ch, cm := P'.cm, cl := P'.cl, cs := P'.cs, qw := P'.qw } = P') (h : Owned w0 w (polB g gf gd gm P o ++ F)) : Owned w0 (((((((w.setCell ⟨g, 8, none⟩ (.int .i64 P'.ch)).setCell ⟨g, 9, none⟩ (.int .i64 P'.cm)).setCell ⟨g, 10, none⟩ (.int .i64 P'.cl)).setCell ⟨g, 11, none⟩ (.int .i64 P'.cs)).setCell ⟨g, 5, none⟩ (.int .i64 P.cap)).setCell ⟨g, 6, none⟩ (.int .i64 P'.qw)).setCell ⟨g, 7, none⟩ (.int .i64 (pr P.cap P'.qw))) (polB g gf gd gm P' o ++ F) := by
  have h2 : Owned w0 (((((((w.setCell ⟨g, 8, none⟩ (.int .i64 P'.ch)).setCell ⟨g, 9, none⟩ (.int .i64 P'.cm)).setCell ⟨g, 10, none⟩ (.int .i64 P'.cl)).setCell ⟨g, 11, none⟩ (.int .i64 P'.cs)).setCell ⟨g, 5, none⟩ (.int .i64 P.cap)).setCell ⟨g, 6, none⟩ (.int .i64 P'.qw)).setCell ⟨g, 7, none⟩ (.int .i64 (pr P.cap P'.qw))) (polB g gf gd gm { P with ch := P'.ch, cm := P'.cm, cl := P'.cl, cs := P'.cs, qw := P'.qw } o ++ F) :=
    polB_three (polB_four (P' := { P with ch := P'.ch, cm := P'.cm, cl := P'.cl, cs := P'.cs }) rfl h) P'.qw
  rw [e] at h2
  exact h2
set_option maxHeartbeats 6400000 in
theorem p_count (h : PolIn gf gd k n P rf rd o) (hit : Bool) (hk : k ≤ 1000000) (hO : Owned w0 w (polB g gf gd gm P o ++ (rf ++ (rd ++ F)))) :
    Calls Try.prog 27 #[.pointer (some ⟨g, 0, none⟩), .bool hit] w fun e w' => e = .returned (.tuple #[]) ∧ Stands w0 F g k (P.count hit) w' := by
  have hcnt : TellsQ 47 #[.agg #[.int .i64 P.ch, .int .i64 P.cm, .int .i64 P.cl, .int .i64 P.cs], .bool hit] (.agg #[.int .i64 (P.counted hit).ch, .int .i64 (P.counted hit).cm, .int .i64 (P.counted hit).cl, .int .i64 (P.counted hit).cs]) := count_calls _ _ _ _ hit
  have hdue : TellsQ 48 #[.agg #[.int .i64 (P.counted hit).ch, .int .i64 (P.counted hit).cm, .int .i64 (P.counted hit).cl, .int .i64 (P.counted hit).cs], .int .i64 P.per] (.bool (dueB (P.counted hit).ch (P.counted hit).cm P.per)) := due_calls _ _ _ _ _
  obtain ⟨l8, l9, l10, l11⟩ := polB_cc hO
  have hset := fun (W : World) (hW : Owned w0 W (polB g gf gd gm P o ++ (rf ++ (rd ++ F)))) => polB_four (P' := P.counted hit) rfl hW
  have hin : PolIn gf gd k n (P.counted hit) rf rd o := ⟨h.fil, h.dq, h.map, h.inv.cap, h.inv.per, h.inv.qw, h.inv.age, h.inv.n, h.inv.ks⟩
  have hP : P.count hit = if dueB (P.counted hit).ch (P.counted hit).cm P.per = true then (P.counted hit).turned.passC else P.counted hit := rfl
  rw [show P.per = (P.counted hit).per from rfl] at hP hdue
  rw [hP]
  generalize P.counted hit = P1 at *
  obtain ⟨due, hd⟩ : ∃ b, dueB P1.ch P1.cm P1.per = b := ⟨_, rfl⟩
  rw [hd] at hdue ⊢
  clear hd
  have HIN := Lib.hid hin
  have HSET := Lib.hid hset
  have HO := Lib.hid hO
  have HCNT := Lib.hid hcnt
  have HDUE := Lib.hid hdue
  clear hset hin hO hcnt hdue hP
  generalize P.ch = ch at *
  generalize P.cm = cm at *
  generalize P.cl = xl at *
  generalize P.cs = cs at *
  cases due with
  | false =>
    rw [if_neg (by simp)]
    go_enter Try.func27, Try.ntmps27
    go_wp2_with (go_at_call 47; refine (HCNT.out _).mono ?_; rintro e w1 ⟨rfl, hb1⟩; clear l8 l9 l10 l11; have HO1 := Lib.hid (HO.out.under hb1); have f8 := polB_free HO1.out 8; have f9 := polB_free HO1.out 9; have f10 := polB_free HO1.out 10; have f11 := polB_free HO1.out 11; obtain ⟨m8, m9, m10, m11⟩ := polB_cc HO1.out; have HO2 := Lib.hid (HSET.out _ HO1.out))
    generalize ((((w1.setCell ⟨g, 8, none⟩ (.int .i64 P1.ch)).setCell ⟨g, 9, none⟩ (.int .i64 P1.cm)).setCell ⟨g, 10, none⟩ (.int .i64 P1.cl)).setCell ⟨g, 11, none⟩ (.int .i64 P1.cs)) = w2 at *
    clear m8 m9 m10 m11 f8 f9 f10 f11 HO1 HSET HCNT hb1
    obtain ⟨m8, m9, m10, m11⟩ := polB_cc HO2.out
    have m1 := (polB_cell HO2.out 1).trans (show (polC gf gd gm P1)[1]? = some (.int .i64 P1.per) from rfl)
    replace m8 := cell_regrown m8
    replace m9 := cell_regrown m9
    replace m10 := cell_regrown m10
    replace m11 := cell_regrown m11
    replace m1 := cell_regrown m1
    have cdue := fun (W : World) => HDUE.out W
    refine wp_region_quiet_below (by kernel_rfl) (by kernel_rfl) ?_
    repeat (first | go_big_quiet_step ((first | (go_at_call 48; with_reducible exact Calls.regrown_of (cdue _)))) | quiet_step ((first | (go_at_call 48; with_reducible exact Calls.regrown_of (cdue _)))))
    refine wpQuiet_nil ?_
    intro _ hw'
    obtain ⟨⟨dq, osq⟩, hw''⟩ := hw'
    subst hw''
    have HO3 := Lib.hid (HO2.out.under (below_regrown w2 dq osq))
    generalize (Go.Sort.grow (redrawn w2 dq) osq) = w3 at *
    clear m8 m9 m10 m11 m1 HDUE cdue HO2
    go_wp2_with fail
    (try simp only [Exit.inBlock, Exit.then])
    refine bodyPost_ret (results_none rfl _ _ _) rfl ?_
    exact ⟨rfl, HIN.out.shut HO3.out⟩
  | true =>
    rw [if_pos rfl]
    have hturn : TellsQ 49 #[.agg #[.int .i64 P1.ch, .int .i64 P1.cm, .int .i64 P1.cl, .int .i64 P1.cs], .int .i64 P1.cap] (.tuple #[.agg #[.int .i64 P1.turned.ch, .int .i64 P1.turned.cm, .int .i64 P1.turned.cl, .int .i64 P1.turned.cs], .int .i64 (farN P1.ch P1.cm P1.cl P1.cs)]) := clturn_calls _ _ _ _ _
    have hocap : ofC P1.cap = P1.cap := by obtain ⟨q1, q2⟩ := HIN.out.inv.cap; unfold ofC cl; omega
    have hshift : TellsQ 50 #[.agg #[.int .i64 P1.cap, .int .i64 P1.qw, .int .i64 P1.pq], .int .i64 (farN P1.ch P1.cm P1.cl P1.cs)] (.agg #[.int .i64 P1.cap, .int .i64 P1.turned.qw, .int .i64 (pr P1.cap P1.turned.qw)]) := by
      have := shift_calls P1.cap P1.qw P1.pq (farN P1.ch P1.cm P1.cl P1.cs)
      unfold shQ at this
      rw [hocap] at this
      exact this
    have hin2 : PolIn gf gd k n P1.turned rf rd o := ⟨HIN.out.fil, HIN.out.dq, HIN.out.map, HIN.out.inv.cap, HIN.out.inv.per, by
      have := shW_in P1.cap P1.qw (farN P1.ch P1.cm P1.cl P1.cs)
      rw [hocap] at this
      exact this, HIN.out.inv.age, HIN.out.inv.n, HIN.out.inv.ks⟩
    have hset := fun (W : World) (hW : Owned w0 W (polB g gf gd gm P1 o ++ (rf ++ (rd ++ F)))) => polB_seven (P' := P1.turned) rfl hW
    have HTURN := Lib.hid (fun W => hturn W)
    have HSHIFT := Lib.hid (fun W => hshift W)
    have HIN2 := Lib.hid hin2
    have HSET2 := Lib.hid hset
    clear hturn hshift hin2 hset hocap
    generalize P1.turned = P2 at *
    generalize farN P1.ch P1.cm P1.cl P1.cs = far at *
    go_enter Try.func27, Try.ntmps27
    go_wp2_with (go_at_call 47; refine (HCNT.out _).mono ?_; rintro e w1 ⟨rfl, hb1⟩; clear l8 l9 l10 l11; have HO1 := Lib.hid (HO.out.under hb1); have f8 := polB_free HO1.out 8; have f9 := polB_free HO1.out 9; have f10 := polB_free HO1.out 10; have f11 := polB_free HO1.out 11; obtain ⟨m8, m9, m10, m11⟩ := polB_cc HO1.out; have HO2 := Lib.hid (HSET.out _ HO1.out))
    generalize ((((w1.setCell ⟨g, 8, none⟩ (.int .i64 P1.ch)).setCell ⟨g, 9, none⟩ (.int .i64 P1.cm)).setCell ⟨g, 10, none⟩ (.int .i64 P1.cl)).setCell ⟨g, 11, none⟩ (.int .i64 P1.cs)) = w2 at *
    clear m8 m9 m10 m11 f8 f9 f10 f11 HO1 HSET HCNT hb1
    obtain ⟨m8, m9, m10, m11⟩ := polB_cc HO2.out
    have m1 := (polB_cell HO2.out 1).trans (show (polC gf gd gm P1)[1]? = some (.int .i64 P1.per) from rfl)
    replace m8 := cell_regrown m8
    replace m9 := cell_regrown m9
    replace m10 := cell_regrown m10
    replace m11 := cell_regrown m11
    replace m1 := cell_regrown m1
    have cdue := fun (W : World) => HDUE.out W
    refine wp_region_quiet_below (by kernel_rfl) (by kernel_rfl) ?_
    repeat (first | go_big_quiet_step ((first | (go_at_call 48; with_reducible exact Calls.regrown_of (cdue _)))) | quiet_step ((first | (go_at_call 48; with_reducible exact Calls.regrown_of (cdue _)))))
    refine wpQuiet_nil ?_
    intro _ hw'
    obtain ⟨⟨dq, osq⟩, hw''⟩ := hw'
    subst hw''
    have HO3 := Lib.hid (HO2.out.under (below_regrown w2 dq osq))
    generalize (Go.Sort.grow (redrawn w2 dq) osq) = w3 at *
    clear m8 m9 m10 m11 m1 HDUE cdue HO2
    have hg : g < w3.heap.size := Owned.lt HO3.out
    obtain ⟨k8, k9, k10, k11⟩ := polB_cc (HO3.out.alloc_ (.cells #[.int .i64 0, .int .i64 0, .int .i64 0, .int .i64 0] 45)).drew
    have k0 := (polB_cell (HO3.out.alloc_ (.cells #[.int .i64 0, .int .i64 0, .int .i64 0, .int .i64 0] 45)).drew 0).trans (show (polC gf gd gm P1)[0]? = some (.int .i64 P1.cap) from rfl)
    obtain ⟨m8, m9, m10, m11⟩ := polB_cc HO3.out.drew
    have m0 := (polB_cell HO3.out.drew 0).trans (show (polC gf gd gm P1)[0]? = some (.int .i64 P1.cap) from rfl)
    go_upto_region 2 with (fail)
    go_cut [4, 5] (fun x4 x5 wc => ∃ nb, x4 = .pointer (some ⟨nb, 0, none⟩) ∧ x5 = .int .i64 far ∧ Hid (Owned w0 wc ((nb, .cells #[.int .i64 P2.ch, .int .i64 P2.cm, .int .i64 P2.cl, .int .i64 P2.cs] 45) :: (polB g gf gd gm P1 o ++ (rf ++ (rd ++ F))))))
    case first =>
      go_region_with (go_at_call 49; (with_reducible refine (HTURN.out _).mono ?_); rintro e w4 ⟨rfl, hb4⟩; first | (have HO4 := Lib.hid (HO3.out.drew.under hb4)) | (have HO5 := Lib.hid ((HO3.out.alloc (.cells #[.int .i64 0, .int .i64 0, .int .i64 0, .int .i64 0] 45)).drew.under hb4); have n0 : w4.cell? ⟨w3.heap.size, 0, none⟩ = some (.int .i64 0) := (HO5.out.cell 0).trans rfl; have n1 : w4.cell? ⟨w3.heap.size, 1, none⟩ = some (.int .i64 0) := (HO5.out.cell 1).trans rfl; have n2 : w4.cell? ⟨w3.heap.size, 2, none⟩ = some (.int .i64 0) := (HO5.out.cell 2).trans rfl; have n3 : w4.cell? ⟨w3.heap.size, 3, none⟩ = some (.int .i64 0) := (HO5.out.cell 3).trans rfl; have u0 : w4.frozen? ⟨w3.heap.size, 0, none⟩ = false := HO5.out.frozen 0; have u1 : w4.frozen? ⟨w3.heap.size, 1, none⟩ = false := HO5.out.frozen 1; have u2 : w4.frozen? ⟨w3.heap.size, 2, none⟩ = false := HO5.out.frozen 2; have u3 : w4.frozen? ⟨w3.heap.size, 3, none⟩ = false := HO5.out.frozen 3))
      all_goals (go_wp2_with fail)
      all_goals
        go_meet
        case rel =>
          first
            | exact ⟨_, rfl, rfl, Lib.hid (HO4.out.alloc (.cells #[.int .i64 P2.ch, .int .i64 P2.cm, .int .i64 P2.cl, .int .i64 P2.cs] 45))⟩
            | exact ⟨_, rfl, rfl, Lib.hid ((((HO5.out.set 0 _).set 1 _).set 2 _).set 3 _)⟩
    case rest =>
      obtain ⟨nb, rfl, rfl, HO6⟩ := hcut
      clear m8 m9 m10 m11 m0 k0 k8 k9 k10 k11 hg
      have HO7 := Lib.hid HO6.out.tail
      obtain ⟨m5, m6, m7⟩ := polB_cq HO7.out.drew
      have n0 : wc.drew.cell? ⟨nb, 0, none⟩ = some (.int .i64 P2.ch) := (HO6.out.cell 0).trans rfl
      have n1 : wc.drew.cell? ⟨nb, 1, none⟩ = some (.int .i64 P2.cm) := (HO6.out.cell 1).trans rfl
      have n2 : wc.drew.cell? ⟨nb, 2, none⟩ = some (.int .i64 P2.cl) := (HO6.out.cell 2).trans rfl
      have n3 : wc.drew.cell? ⟨nb, 3, none⟩ = some (.int .i64 P2.cs) := (HO6.out.cell 3).trans rfl
      go_wp2_with fail
      go_upto_region 3 with (fail)
      go_cut [] (fun wc => Hid (Owned w0 wc (polB g gf gd gm P2 o ++ (rf ++ (rd ++ F)))))
      case first =>
        go_region_with (go_at_call 50; (with_reducible refine (HSHIFT.out _).mono ?_); rintro e w6 ⟨rfl, hb6⟩; have HO8 := Lib.hid (HO6.out.drew.under hb6); obtain ⟨q5, q6, q7⟩ := polB_cq HO8.out.tail; obtain ⟨q8, q9, q10, q11⟩ := polB_cc HO8.out.tail; have f5 := polB_free HO8.out.tail 5; have f6 := polB_free HO8.out.tail 6; have f7 := polB_free HO8.out.tail 7; have f8 := polB_free HO8.out.tail 8; have f9 := polB_free HO8.out.tail 9; have f10 := polB_free HO8.out.tail 10; have f11 := polB_free HO8.out.tail 11; have p0 := (HO8.out.cell 0).trans (show _ = some (.int .i64 P2.ch) from rfl); have p1 := (HO8.out.cell 1).trans (show _ = some (.int .i64 P2.cm) from rfl); have p2 := (HO8.out.cell 2).trans (show _ = some (.int .i64 P2.cl) from rfl); have p3 := (HO8.out.cell 3).trans (show _ = some (.int .i64 P2.cs) from rfl))
        all_goals (go_wp2_with fail)
        all_goals
          go_meet
          case rel => exact Lib.hid (HSET2.out _ HO8.out.tail)
      case rest =>
        have HO9 := Lib.hid hcut.out
        have m7 := (polB_cell HO9.out 7).trans (show (polC gf gd gm P2)[7]? = some (.int .i64 P2.pq) from rfl)
        have cp := p_passC HIN2.out hk HO9.out
        clear hcut
        go_wp2_with fail
        go_at_call 51
        refine (cp).mono ?_
        rintro e w10 ⟨rfl, rd', hin, hO10⟩
        go_wp2_with fail
        go_end0
        exact ⟨rfl, hin.shut hO10⟩
end
end Go.Proofs.Ytnhdjpeadhcajaa
