/- Merged texts: Layer 5: a filter's functions. -/
import Derived.Test.YtnhdjpeadhcajaaK14
namespace Go.Proofs.Ytnhdjpeadhcajaa
open Go.RowKit NibPure Go.Sep DoorPure
section
variable {g n : Nat} {seed : Int} {st : FSt} {w0 w : World} {F r : Own}
set_option maxHeartbeats 1600000 in
theorem f_new (cap seed : Int) (h : Owned w0 w F) :
    Calls Try.prog 21 #[.int .i64 cap, .int .i64 seed] w fun e w' => ∃ g r, e = .returned (.pointer (some ⟨g, 0, none⟩)) ∧ FilterAt g seed (wordN cap) (FSt.new cap) r ∧ Owned w0 w' (r ++ F) := by
  have cs := s_new cap seed h
  have cd := fun (w : World) (F : Own) (h : Owned w0 w F) => door_new ((16 * wordN cap : Nat) : Int) seed h
  obtain ⟨n, hn⟩ : ∃ n, wordN cap = n := ⟨_, rfl⟩
  have hst : FSt.new cap = ⟨0, fun _ _ => 0, List.replicate (8 * capN ((16 * n : Nat) : Int)) false, 0⟩ := by unfold FSt.new; rw [hn]
  rw [hst]
  rw [hn] at cs cd ⊢
  have HD := Lib.hid cd
  clear hst hn h cd
  go_enter Try.func21, Try.ntmps21
  go_wp2_with fail
  go_at_call 36
  refine (cs).mono ?_
  rintro e w1 ⟨gs, rs, rfl, hs, hO⟩
  have HO := Lib.hid (hO.alloc (.cells #[.pointer (some ⟨gs, 0, none⟩)] 73))
  have cw := fun (W : World) (x : Nat × Obj) (h : Owned w0 W (x :: (rs ++ F))) => s_width (W := ((16 * n : Nat) : Int)) rfl hs h.tail
  have HW := Lib.hid cw
  have HS := Lib.hid hs
  clear cs hO cw hs
  go_wp2_with fail
  go_at_call 38
  refine (HW.out _ _ HO.out).mono ?_
  rintro e w2 ⟨rfl, rfl⟩
  go_wp2_with fail
  go_at_call 37
  refine (HD.out _ _ HO.out).mono ?_
  rintro e w3 ⟨gb, rd, rfl, hd, hO3⟩
  have HD3 := Lib.hid hd
  have HO3 := Lib.hid hO3
  clear hd hO3
  go_wp2_with fail
  go_ret
  have h4 := (HO3.out.alloc (.cells #[.pointer (some ⟨gb, 0, none⟩)] 78)).alloc (.cells #[.pointer (some ⟨w1.heap.size, 0, none⟩), .pointer (some ⟨w3.heap.size, 0, none⟩), .int .i64 0] 80)
  rw [show (w3.alloc (.cells #[.pointer (some ⟨gb, 0, none⟩)] 78)).heap.size = w3.heap.size + 1 by simp] at h4
  refine ⟨w3.heap.size + 1, _, rfl, FilterAt.shut (gc := w1.heap.size) (gd := w3.heap.size) HS.out HD3.out, ?_⟩
  refine h4.perm ?_
  unfold filB
  simp only [List.cons_append, List.nil_append, List.append_assoc]
  refine List.Perm.cons _ ?_
  refine (List.Perm.cons _ (List.perm_middle (l₁ := rd))).trans ?_
  refine (List.Perm.swap _ _ _).trans ?_
  refine List.Perm.cons _ (List.Perm.cons _ ?_)
  exact perm2 rd rs F
set_option maxHeartbeats 1600000 in
theorem f_often (key : Int) {m : Nat} (hm : st.often seed n key = m) (hr : FilterAt g seed n st r) (h : Owned w0 w (r ++ F)) :
    Calls Try.prog 35 #[.pointer (some ⟨g, 0, none⟩), .int .i64 key] w fun e w' => e = .returned (.int .i64 (m : Nat)) ∧ Owned w0 w' (r ++ F) := by
  subst hm
  obtain ⟨gc, gd, gs, gb, rs, rd, rfl, hs, hd⟩ := hr.open_
  obtain ⟨c, hc⟩ : ∃ c, mnS st.S (plS seed key (16 * n)) 4 = c := ⟨_, rfl⟩
  obtain ⟨b, hb⟩ : ∃ b, hasB seed key st.B = b := ⟨_, rfl⟩
  have hof : st.often seed n key = c + if b = true then 1 else 0 := by unfold FSt.often; rw [hc, hb]
  have hcl := mnS_le st.S (plS seed key (16 * n)) 4
  rw [hc] at hcl
  rw [hof]
  rw [List.append_assoc, List.append_assoc] at h
  have HC := Lib.hid hc
  have HB := Lib.hid hb
  have c0 := filB_0 h
  have cc := filB_c h
  have cs := fun (W : World) (h : Owned w0 W (filB g gc gd gs gb st.A ++ (rs ++ (rd ++ F)))) => s_count key rfl HC.out hs h.comm
  have cd := fun (W : World) (h : Owned w0 W (filB g gc gd gs gb st.A ++ (rs ++ (rd ++ F)))) => d_has key HB.out hd h.third
  have HCS := Lib.hid cs
  have HCD := Lib.hid cd
  have HO := Lib.hid h
  clear hc hb hof h hs hd hr cs cd
  cases b
  all_goals
    go_enter Try.func35, Try.ntmps35
    go_wp2_with fail
    go_at_call 61
    refine (HCS.out _ HO.out).mono ?_
    rintro e w1 ⟨rfl, hO1⟩
    have HO1 := Lib.hid hO1.comm
    have c1 := filB_1 HO1.out
    have c2 := filB_d HO1.out
    clear hO1
    go_wp2_with fail
    go_at_call 62
    refine (HCD.out _ HO1.out).mono ?_
    rintro e w2 ⟨rfl, hO2⟩
    have HO2 := Lib.hid hO2.back3
    clear hO2
    go_wp2_with fail
    go_ret
    exact ⟨by simp, HO2.out⟩
theorem f_oftenB (key : Int) {m : Nat} (hm : st.often seed n key = m) (hr : FilterAt g seed n st r) (h : Owned w0 w (r ++ F)) :
    Calls Try.prog 35 #[.pointer (some ⟨g, 0, none⟩), .int .i64 key] w fun e w' => e = .returned (.int .i64 (m : Nat)) ∧ Below w.heap.size w w' :=
  calls_below h (fun _ _ hO => f_often key hm hr hO)
set_option maxHeartbeats 800000 in
theorem f_better (a b : Int) {x y : Nat} (hx : st.often seed n a = x) (hy : st.often seed n b = y) {t : Bool} (ht : decide (y < x) = t) (hr : FilterAt g seed n st r) (h : Owned w0 w (r ++ F)) :
    Calls Try.prog 75 #[.pointer (some ⟨g, 0, none⟩), .int .i64 a, .int .i64 b] w fun e w' => e = .returned (.bool t) ∧ Owned w0 w' (r ++ F) := by
  have ca := fun (W : World) (h : Owned w0 W (r ++ F)) => f_often a hx hr h
  have cb := fun (W : World) (h : Owned w0 W (r ++ F)) => f_often b hy hr h
  have HA := Lib.hid ca
  have HB := Lib.hid cb
  have HO := Lib.hid h
  have ht2 : decide ((y : Int) < (x : Int)) = t := by rw [← ht]; simp
  clear ca cb h hx hy ht
  go_enter Try.func75, Try.ntmps75
  go_wp2_with fail
  go_at_call 35
  refine (HA.out _ HO.out).mono ?_
  rintro e w1 ⟨rfl, hO1⟩
  go_wp2_with fail
  go_at_call 35
  refine (HB.out _ hO1).mono ?_
  rintro e w2 ⟨rfl, hO2⟩
  have HT := Lib.hid ht2
  clear ht2
  go_wp2_with fail
  go_ret
  exact ⟨by rw [← HT.out]; simp, hO2⟩
set_option maxHeartbeats 3200000 in
theorem f_record (key : Int) {st' : FSt} (hst : st.next seed n key = st') (hA : st.A ≤ 1000000) (hr : FilterAt g seed n st r) (h : Owned w0 w (r ++ F)) :
    Calls Try.prog 26 #[.pointer (some ⟨g, 0, none⟩), .int .i64 key] w fun e w' => e = .returned (.tuple #[]) ∧ ∃ r', FilterAt g seed n st' r' ∧ Owned w0 w' (r' ++ F) := by
  obtain ⟨gc, gd, gs, gb, rs, rd, rfl, hs, hd⟩ := hr.open_
  rw [List.append_assoc, List.append_assoc] at h
  obtain ⟨b, hb⟩ : ∃ b, hasB seed key st.B = b := ⟨_, rfl⟩
  obtain ⟨more, hm⟩ : ∃ m, st.more seed n key = m := ⟨_, rfl⟩
  obtain ⟨aged, ha⟩ : ∃ a, st.aged seed n key = a := ⟨_, rfl⟩
  have hm2 : anyS st.S (plS seed key (16 * n)) 4 = more := hm
  have ha2 : (more && decide (160 * n ≤ st.N + 1)) = aged := by rw [← ha, ← hm]; rfl
  unfold FSt.next at hst
  rw [hb, hm, ha] at hst
  have HB := Lib.hid hb
  have HM := Lib.hid hm2
  have HAG := Lib.hid ha2
  have HST := Lib.hid hst
  have c1 := filB_1 h
  have cd := filB_d h
  have CD := Lib.hid (fun (W : World) (h : Owned w0 W (filB g gc gd gs gb st.A ++ (rs ++ (rd ++ F)))) => d_put key HB.out hd h.third)
  have CS := Lib.hid (fun (W : World) (rd' : Own) (h : Owned w0 W (filB g gc gd gs gb st.A ++ (rs ++ (rd' ++ F)))) => s_add key rfl HM.out HAG.out hs h.comm)
  have HO := Lib.hid h
  have HS := Lib.hid hs
  clear hb hm ha hm2 ha2 hst h hs hd hr
  generalize hAA : st.A = A at *
  clear hAA
  cases b with
  | false =>
    go_enter Try.func26, Try.ntmps26
    go_wp2_with fail
    go_at_call 44
    refine (CD.out _ HO.out).mono ?_
    rintro e w1 ⟨r1, rfl, hr1, hO1⟩
    have HO1 := Lib.hid hO1.back3
    have HR1 := Lib.hid hr1
    clear hO1 hr1
    go_wp2_with fail
    (try simp only [Exit.inBlock, Exit.then])
    refine bodyPost_ret (results_none rfl _ _ _) rfl ?_
    have e : st' = ⟨st.N, st.S, putB seed key st.B, A⟩ := by rw [← HST.out]; simp
    rw [e]
    exact ⟨rfl, _, FilterAt.shut HS.out HR1.out, by rw [List.append_assoc, List.append_assoc]; exact HO1.out⟩
  | true =>
    cases aged with
    | false =>
      have e : st' = ⟨numOf st.N more false, addOf st.S (plS seed key (16 * n)) false, putB seed key st.B, A⟩ := by rw [← HST.out]; simp
      have HE := Lib.hid e
      clear e
      go_enter Try.func26, Try.ntmps26
      go_wp2_with fail
      go_at_call 44
      refine (CD.out _ HO.out).mono ?_
      rintro e w1 ⟨r1, rfl, hr1, hO1⟩
      have HO1 := Lib.hid hO1.back3
      have HR1 := Lib.hid hr1
      have d0 := filB_0 HO1.out
      have d1 := filB_c HO1.out
      clear hO1 hr1 c1 cd
      go_wp2_with fail
      go_at_call 45
      refine (CS.out _ _ HO1.out).mono ?_
      rintro e w2 ⟨rfl, r2, hr2, hO2⟩
      have HO2 := Lib.hid hO2.comm
      have HR2 := Lib.hid hr2
      clear hO2 hr2
      go_wp2_with fail
      go_end0
      rw [HE.out]
      exact ⟨rfl, _, FilterAt.shut HR2.out HR1.out, by rw [List.append_assoc, List.append_assoc]; exact HO2.out⟩
    | true =>
      have e : st' = ⟨numOf st.N more true, addOf st.S (plS seed key (16 * n)) true, List.replicate (putB seed key st.B).length false, A + 1⟩ := by rw [← HST.out]; simp
      have HE := Lib.hid e
      clear e
      go_enter Try.func26, Try.ntmps26
      go_wp2_with fail
      go_at_call 44
      refine (CD.out _ HO.out).mono ?_
      rintro e w1 ⟨r1, rfl, hr1, hO1⟩
      have HO1 := Lib.hid hO1.back3
      have HR1 := Lib.hid hr1
      have d0 := filB_0 HO1.out
      have d1 := filB_c HO1.out
      clear hO1 hr1 c1 cd
      go_wp2_with fail
      go_at_call 45
      refine (CS.out _ _ HO1.out).mono ?_
      rintro e w2 ⟨rfl, r2, hr2, hO2⟩
      have HO2 := Lib.hid hO2.comm
      have HR2 := Lib.hid hr2
      have f1 := filB_1 HO2.out
      have f2 := filB_d HO2.out
      clear hO2 hr2 d0 d1
      go_wp2_with fail
      go_at_call 46
      refine (door_clear HR1.out (Owned.third HO2.out)).mono ?_
      rintro e w3 ⟨r3, rfl, hr3, hO3⟩
      have HO3 := Lib.hid hO3.back3
      have HR3 := Lib.hid hr3
      have g2 := filB_2 HO3.out
      have g3 := filB_free HO3.out
      have HO4 := Lib.hid (show Owned w0 (w3.setCell ⟨g, 2, none⟩ (.int .i64 ((A : Int) + 1))) (filB g gc gd gs gb (A + 1) ++ (r2 ++ (r3 ++ F))) from filB_set HO3.out (A + 1))
      clear hO3 hr3 f1 f2
      go_wp2_with fail
      go_end0
      rw [HE.out]
      exact ⟨rfl, _, FilterAt.shut HR2.out HR3.out, by rw [List.append_assoc, List.append_assoc]; exact HO4.out⟩
end
end Go.Proofs.Ytnhdjpeadhcajaa
