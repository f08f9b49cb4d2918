/- Merged texts: Layer 11: who has to go next. -/
import Derived.Test.YtnhdjpeadhcajaaK36
import Derived.BigQuiet
import Derived.Lib.QuietBelow
namespace Go.Proofs.Ytnhdjpeadhcajaa
open Go.RowKit Go.Sep DqPure
set_option maxRecDepth 100000
theorem lst2_mem : ∀ (l : List (Int × Int)) (p : Int × Int), lastI.lst2 p l ∈ p :: l
  | [], p => by simp [lastI.lst2]
  | q :: l, p => List.mem_cons_of_mem _ (lst2_mem l q)
theorem ends_mem (l : List (Int × Int)) (h : headI l ≠ 0) : inL (headI l) l = true ∧ inL (lastI l) l = true := by
  cases l with
  | nil => exact absurd rfl h
  | cons p l => exact ⟨in_iff.2 ⟨p, List.mem_cons_self, rfl⟩, in_iff.2 ⟨_, lst2_mem l p, rfl⟩⟩
section
variable {g gf gd gm k n : Nat} {P : PSt} {rf rd r F : Own} {o : Obj} {w0 w : World}
theorem PolIn.wf (h : PolIn gf gd k n P rf rd o) (x : Int) (hx : P.has x = true) : 1 ≤ x ∧ x ≤ 65536 := by
  unfold PSt.has at hx
  rw [Bool.or_eq_true, Bool.or_eq_true] at hx
  rcases hx with hx | hx | hx
  · obtain ⟨p, hp, rfl⟩ := in_iff.1 hx
    exact (h.dq.fine (k := 0) (by omega) hp).1
  · obtain ⟨p, hp, rfl⟩ := in_iff.1 hx
    exact (h.dq.fine (k := 1) (by omega) hp).1
  · obtain ⟨p, hp, rfl⟩ := in_iff.1 hx
    exact (h.dq.fine (k := 2) (by omega) hp).1
set_option maxHeartbeats 6400000 in
theorem p_next (h : PolIn gf gd k n P rf rd o) (hO : Owned w0 w (polB g gf gd gm P o ++ (rf ++ (rd ++ F)))) :
    Calls Try.prog 55 #[.pointer (some ⟨g, 0, none⟩)] w fun e w' => e = .returned (.int .i64 P.next) ∧ Owned w0 w' (polB g gf gd gm P o ++ (rf ++ (rd ++ F))) := by
  have cf := fun (i : Nat) (z : Int) (hz : (i : Int) = z) (hi : i < 3) (W : World) (hW : Owned w0 W (polB g gf gd gm P o ++ (rf ++ (rd ++ F)))) => d3_front hz hi h.dq hW.third
  have cb := fun (W : World) (hW : Owned w0 W (polB g gf gd gm P o ++ (rf ++ (rd ++ F)))) => d3_back (k := 1) (z := 1) rfl (by omega) h.dq hW.third
  have cl := fun (W : World) (hW : Owned w0 W (polB g gf gd gm P o ++ (rf ++ (rd ++ F)))) => d3_len (k := 2) (z := 2) rfl (by omega) h.dq hW.third
  rw [show P.st 1 = P.b from rfl] at cb
  rw [show P.st 2 = P.c from rfl] at cl
  have cf0 := cf 0 0 rfl (by omega)
  have cf1 := cf 1 1 rfl (by omega)
  have cf2 := cf 2 2 rfl (by omega)
  rw [show P.st 0 = P.a from rfl] at cf0
  rw [show P.st 1 = P.b from rfl] at cf1
  rw [show P.st 2 = P.c from rfl] at cf2
  have hcell := fun (W : World) (hW : Owned w0 W (polB g gf gd gm P o ++ (rf ++ (rd ++ F)))) => (⟨(polB_cell hW 2).trans rfl, (polB_cell hW 3).trans rfl, (polB_cell hW 4).trans rfl⟩ : W.cell? ⟨g, 2, none⟩ = some (.pointer (some ⟨gf, 0, none⟩)) ∧ W.cell? ⟨g, 3, none⟩ = some (.pointer (some ⟨gd, 0, none⟩)) ∧ W.cell? ⟨g, 4, none⟩ = some (.map (some gm)))
  have CF0 := Lib.hid cf0
  have CF1 := Lib.hid cf1
  have CF2 := Lib.hid cf2
  have CB := Lib.hid cb
  have CL := Lib.hid cl
  have HC := Lib.hid hcell
  have HO := Lib.hid hO
  have hP : P.next = (if headI P.b = 0 then (if 0 < P.c.length then headI P.c else headI P.a) else if headI P.b = lastI P.b ∨ P.oft (P.key (headI P.b)) < P.oft (P.key (lastI P.b)) then headI P.b else lastI P.b) := rfl
  clear cf cf0 cf1 cf2 cb cl hcell
  have he := ends_mem P.b
  have hwf := fun (hv : headI P.b ≠ 0) => (⟨h.wf _ (by unfold PSt.has; rw [(he hv).1]; simp), h.wf _ (by unfold PSt.has; rw [(he hv).2]; simp)⟩ : (1 ≤ headI P.b ∧ headI P.b ≤ 65536) ∧ 1 ≤ lastI P.b ∧ lastI P.b ≤ 65536)
  have hbet := fun (t : Bool) (ht : decide (P.oft (P.key (headI P.b)) < P.oft (P.key (lastI P.b))) = t) (W : World) (hW : Owned w0 W (polB g gf gd gm P o ++ (rf ++ (rd ++ F)))) => calls_below hW.comm (fun u G hG => f_better (P.key (lastI P.b)) (P.key (headI P.b)) rfl rfl ht h.fil hG)
  have hlook := fun (x : Int) (hx : 1 ≤ x ∧ x ≤ 65536) (W : World) (hW : Owned w0 W (polB g gf gd gm P o ++ (rf ++ (rd ++ F)))) => h.key1 x hW (wfk_id hx)
  have HB := Lib.hid hbet
  have HL := Lib.hid hlook
  have hln : P.c.length ≤ n := h.dq.len (k := 2) (by omega)
  clear hbet hlook h he hO
  have key : ∀ X : Int, X = P.next → Calls Try.prog 55 #[.pointer (some ⟨g, 0, none⟩)] w fun e w' => e = .returned (.int .i64 X) ∧ Owned w0 w' (polB g gf gd gm P o ++ (rf ++ (rd ++ F))) := by
    intro X hX
    rw [hP] at hX
    clear hP
    generalize headI P.b = v at *
    generalize lastI P.b = q at *
    generalize hcl : P.c.length = cn at *
    clear hcl
    have c3q := cell_regrown (HC.out _ HO.out).2.1
    have cfq := fun d os => CF1.out _ (HO.out.under (below_regrown w d os))
    have cbq := fun d os => CB.out _ (HO.out.under (below_regrown w d os))
    generalize headI P.c = vc at *
    generalize headI P.a = va at *
    by_cases hv : v = 0
    · subst hv
      rw [if_pos rfl] at hX
      by_cases hcn : 0 < cn
      · have e : X = vc := by rw [hX, if_pos hcn]
        subst e
        have d1 : decide (0 < cn) = true := by simp; omega
        have d2 : decide (0 < (cn : Int)) = true := by simp; omega
        clear hX hwf HB HL
        go_enter Try.func55, Try.ntmps55
        go_wp2_with fail
        refine wp_region_quiet_below (by kernel_rfl) (by kernel_rfl) ?_
        repeat (first | go_big_quiet_step ((first | (go_at_call 72; with_reducible exact Calls.regrown_of (cfq _ _)) | (go_at_call 73; with_reducible exact Calls.regrown_of (cbq _ _)))) | quiet_step ((first | (go_at_call 72; with_reducible exact Calls.regrown_of (cfq _ _)) | (go_at_call 73; with_reducible exact Calls.regrown_of (cbq _ _)))))
        refine wpQuiet_nil ?_
        intro _ hw'
        obtain ⟨⟨dq, osq⟩, hw''⟩ := hw'
        subst hw''
        have HO3 := Lib.hid (HO.out.under (below_regrown w dq osq))
        generalize (Go.Sort.grow (redrawn w dq) osq) = w3 at *
        have c33 := (HC.out _ HO3.out).2.1
        clear cfq cbq c3q
        all_goals (go_wp2_with (first
          | (go_at_call 74; refine (CL.out _ HO3.out).mono ?_; rintro e w4 ⟨rfl, hb4⟩; have HO4 := Lib.hid (HO3.out.under hb4); have c34 := (HC.out _ HO4.out).2.1)
          | (go_at_call 72; refine (CF2.out _ HO4.out).mono ?_; rintro e w5 ⟨rfl, hb5⟩; have HO5 := Lib.hid (HO4.out.under hb5))))
        all_goals
          go_ret
          exact ⟨rfl, HO5.out⟩
      · have e : X = va := by rw [hX, if_neg hcn]
        subst e
        have d1 : decide (0 < cn) = false := by simp; omega
        have d2 : decide (0 < (cn : Int)) = false := by simp; omega
        clear hX hwf HB HL
        go_enter Try.func55, Try.ntmps55
        go_wp2_with fail
        refine wp_region_quiet_below (by kernel_rfl) (by kernel_rfl) ?_
        repeat (first | go_big_quiet_step ((first | (go_at_call 72; with_reducible exact Calls.regrown_of (cfq _ _)) | (go_at_call 73; with_reducible exact Calls.regrown_of (cbq _ _)))) | quiet_step ((first | (go_at_call 72; with_reducible exact Calls.regrown_of (cfq _ _)) | (go_at_call 73; with_reducible exact Calls.regrown_of (cbq _ _)))))
        refine wpQuiet_nil ?_
        intro _ hw'
        obtain ⟨⟨dq, osq⟩, hw''⟩ := hw'
        subst hw''
        have HO3 := Lib.hid (HO.out.under (below_regrown w dq osq))
        generalize (Go.Sort.grow (redrawn w dq) osq) = w3 at *
        have c33 := (HC.out _ HO3.out).2.1
        clear cfq cbq c3q
        all_goals (go_wp2_with (first
          | (go_at_call 74; refine (CL.out _ HO3.out).mono ?_; rintro e w4 ⟨rfl, hb4⟩; have HO4 := Lib.hid (HO3.out.under hb4); have c34 := (HC.out _ HO4.out).2.1)
          | (go_at_call 72; refine (CF0.out _ HO4.out).mono ?_; rintro e w5 ⟨rfl, hb5⟩; have HO5 := Lib.hid (HO4.out.under hb5))))
        all_goals
          go_ret
          exact ⟨rfl, HO5.out⟩
    · rw [if_neg hv] at hX
      obtain ⟨hv1, hq1⟩ := hwf hv
      have d1 : decide (v = 0) = false := by simp; exact hv
      have l1 := HL.out q hq1
      have l2 := HL.out v hv1
      have L1 := Lib.hid l1
      have L2 := Lib.hid l2
      clear l1 l2 HL hwf
      by_cases hvq : v = q
      · subst hvq
        have e : X = v := by rw [hX, if_pos (.inl rfl)]
        subst e
        clear hX HB
        go_enter Try.func55, Try.ntmps55
        go_wp2_with fail
        refine wp_region_quiet_below (by kernel_rfl) (by kernel_rfl) ?_
        repeat (first | go_big_quiet_step ((first | (go_at_call 72; with_reducible exact Calls.regrown_of (cfq _ _)) | (go_at_call 73; with_reducible exact Calls.regrown_of (cbq _ _)))) | quiet_step ((first | (go_at_call 72; with_reducible exact Calls.regrown_of (cfq _ _)) | (go_at_call 73; with_reducible exact Calls.regrown_of (cbq _ _)))))
        refine wpQuiet_nil ?_
        intro _ hw'
        obtain ⟨⟨dq, osq⟩, hw''⟩ := hw'
        subst hw''
        have HO3 := Lib.hid (HO.out.under (below_regrown w dq osq))
        generalize (Go.Sort.grow (redrawn w dq) osq) = w3 at *
        have c33 := (HC.out _ HO3.out).2.1
        clear cfq cbq c3q
        all_goals (go_wp2_with fail)
        all_goals
          go_ret
          exact ⟨rfl, HO3.out⟩
      · have d2 : decide (v = q) = false := by simp; exact hvq
        obtain ⟨t, ht⟩ : ∃ t, decide (P.oft (P.key v) < P.oft (P.key q)) = t := ⟨_, rfl⟩
        have cbet := HB.out t ht
        have e : X = if t = true then v else q := by
          rw [hX, ← ht]
          by_cases hh : P.oft (P.key v) < P.oft (P.key q)
          · rw [if_pos (.inr hh), if_pos (by simpa using hh)]
          · rw [if_neg (by rintro (h | h); exact hvq h; exact hh h), if_neg (by simpa using hh)]
        have CBET := Lib.hid cbet
        clear hX HB cbet ht
        generalize P.key v = kv at *
        generalize P.key q = kq at *
        cases t with
        | true =>
          rw [if_pos rfl] at e
          subst e
          go_enter Try.func55, Try.ntmps55
          go_wp2_with fail
          refine wp_region_quiet_below (by kernel_rfl) (by kernel_rfl) ?_
          repeat (first | go_big_quiet_step ((first | (go_at_call 72; with_reducible exact Calls.regrown_of (cfq _ _)) | (go_at_call 73; with_reducible exact Calls.regrown_of (cbq _ _)))) | quiet_step ((first | (go_at_call 72; with_reducible exact Calls.regrown_of (cfq _ _)) | (go_at_call 73; with_reducible exact Calls.regrown_of (cbq _ _)))))
          refine wpQuiet_nil ?_
          intro _ hw'
          obtain ⟨⟨dq, osq⟩, hw''⟩ := hw'
          subst hw''
          have HO3 := Lib.hid (HO.out.under (below_regrown w dq osq))
          generalize (Go.Sort.grow (redrawn w dq) osq) = w3 at *
          have c33 := (HC.out _ HO3.out).2.1
          clear cfq cbq c3q
          all_goals (go_wp2_with fail)
          have m1 := fun d os => L1.out _ (HO3.out.under (below_regrown w3 d os))
          have m2 := fun d os => L2.out _ (HO3.out.under (below_regrown w3 d os))
          obtain ⟨c36, c37, c38⟩ := HC.out _ HO3.out
          have c36q := cell_regrown c36
          have c38q := cell_regrown c38
          have cbt := fun d os => CBET.out _ (HO3.out.under (below_regrown w3 d os))
          clear c36 c37 c38
          refine wp_region_quiet_below (by kernel_rfl) (by kernel_rfl) ?_
          repeat (first | go_big_quiet_step ((first | (go_at_call 75; with_reducible exact Calls.regrown_of (cbt _ _)))) | quiet_step ((first | (go_at_call 75; with_reducible exact Calls.regrown_of (cbt _ _)))))
          refine wpQuiet_nil ?_
          intro _ hw'
          obtain ⟨⟨dq, osq⟩, hw''⟩ := hw'
          subst hw''
          have HO5 := Lib.hid (HO3.out.under (below_regrown w3 dq osq))
          generalize (Go.Sort.grow (redrawn w3 dq) osq) = w5 at *
          clear m1 m2 c36q c38q cbt
          go_wp2_with fail
          go_ret
          exact ⟨rfl, HO5.out⟩
        | false =>
          rw [if_neg (by simp)] at e
          subst e
          go_enter Try.func55, Try.ntmps55
          go_wp2_with fail
          refine wp_region_quiet_below (by kernel_rfl) (by kernel_rfl) ?_
          repeat (first | go_big_quiet_step ((first | (go_at_call 72; with_reducible exact Calls.regrown_of (cfq _ _)) | (go_at_call 73; with_reducible exact Calls.regrown_of (cbq _ _)))) | quiet_step ((first | (go_at_call 72; with_reducible exact Calls.regrown_of (cfq _ _)) | (go_at_call 73; with_reducible exact Calls.regrown_of (cbq _ _)))))
          refine wpQuiet_nil ?_
          intro _ hw'
          obtain ⟨⟨dq, osq⟩, hw''⟩ := hw'
          subst hw''
          have HO3 := Lib.hid (HO.out.under (below_regrown w dq osq))
          generalize (Go.Sort.grow (redrawn w dq) osq) = w3 at *
          have c33 := (HC.out _ HO3.out).2.1
          clear cfq cbq c3q
          all_goals (go_wp2_with fail)
          have m1 := fun d os => L1.out _ (HO3.out.under (below_regrown w3 d os))
          have m2 := fun d os => L2.out _ (HO3.out.under (below_regrown w3 d os))
          obtain ⟨c36, c37, c38⟩ := HC.out _ HO3.out
          have c36q := cell_regrown c36
          have c38q := cell_regrown c38
          have cbt := fun d os => CBET.out _ (HO3.out.under (below_regrown w3 d os))
          clear c36 c37 c38
          refine wp_region_quiet_below (by kernel_rfl) (by kernel_rfl) ?_
          repeat (first | go_big_quiet_step ((first | (go_at_call 75; with_reducible exact Calls.regrown_of (cbt _ _)))) | quiet_step ((first | (go_at_call 75; with_reducible exact Calls.regrown_of (cbt _ _)))))
          refine wpQuiet_nil ?_
          intro _ hw'
          obtain ⟨⟨dq, osq⟩, hw''⟩ := hw'
          subst hw''
          have HO5 := Lib.hid (HO3.out.under (below_regrown w3 dq osq))
          generalize (Go.Sort.grow (redrawn w3 dq) osq) = w5 at *
          clear m1 m2 c36q c38q cbt
          go_wp2_with fail
          go_ret
          exact ⟨rfl, HO5.out⟩
  exact key _ rfl
end
end Go.Proofs.Ytnhdjpeadhcajaa
