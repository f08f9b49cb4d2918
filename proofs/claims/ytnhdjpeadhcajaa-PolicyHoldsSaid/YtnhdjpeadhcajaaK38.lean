/- Merged texts: Layer 11: what is wrong of an event. -/
import Derived.Test.YtnhdjpeadhcajaaK36
import Derived.BigQuiet
import Derived.Lib.QuietBelow
namespace Go.Proofs.Ytnhdjpeadhcajaa
open Go.RowKit Go.Sep DqPure
set_option maxRecDepth 100000
/-- an event's cells -/
def evC (d nd key wt : Int) : Array Value := #[.int .i64 d, .int .i64 nd, .int .i64 key, .int .i64 wt]
theorem und_event : Try.prog.underlying 28 = some (.struct (Try.prog.fieldsOf 28)) := by kernel_rfl
theorem info_event : (Try.prog.info? 28).map (·.size) = some 4 := by kernel_rfl
section
variable {g gf gd gm k n : Nat} {P : PSt} {rf rd r F : Own} {o : Obj} {w0 w : World}
set_option maxHeartbeats 6400000 in
theorem p_may (h : PolIn gf gd k n P rf rd o) (d nd key wt : Int) (hnd : wfk nd) (hO : Owned w0 w (polB g gf gd gm P o ++ (rf ++ (rd ++ F)))) :
    Calls Try.prog 25 #[.pointer (some ⟨g, 0, none⟩), .agg (evC d nd key wt)] w fun e w' => e = .returned (.int .i64 (P.may d nd wt)) ∧ Below w.heap.size w w' := by
  obtain ⟨is, his⟩ : ∃ b, (P.ks nd).isSome = b := ⟨_, rfl⟩
  obtain ⟨ky, hky⟩ : ∃ b, P.key nd = b := ⟨_, rfl⟩
  obtain ⟨hv, hhv⟩ : ∃ b, heavyN P.cap wt = b := ⟨_, rfl⟩
  have hP : ∀ X, X = P.may d nd wt → X = if d < 1 ∨ 4 < d then 1 else if d = 1 ∧ (nd < 1 ∨ 65536 < nd) then 1 else if d ≠ 1 ∧ is = false then 3 else if d = 2 ∨ d = 4 then 0 else if hv ≠ 0 then hv else if d = 1 ∧ is = true then 5 else 0 := fun X h => by rw [← his, ← hhv]; exact h
  have hO1 := (hO.alloc_ (.cells (evC d nd key wt) 28))
  have hl := fun (W : World) (hW : Owned w0 W (polB g gf gd gm P o ++ (rf ++ (rd ++ F)))) => h.key nd hW hnd
  have hh := fun (W : World) (hW : Owned w0 W (polB g gf gd gm P o ++ (rf ++ (rd ++ F)))) => p_heavy (g := g) (gf := gf) (gd := gd) (gm := gm) (P := P) (o := o) wt hW
  rw [hky, his] at hl
  rw [hhv] at hh
  clear hky his hhv
  have HH := Lib.hid hh
  have HO := Lib.hid hO1
  have lq := fun d' os => hl _ (hO1.under (below_regrown _ d' os))
  have c4q := cell_regrown ((polB_cell hO1 4).trans (show (polC gf gd gm P)[4]? = some (.map (some gm)) from rfl))
  have hE := (Owned.nil w).alloc (.cells (evC d nd key wt) 28)
  have e0q := cell_regrown ((hE.cell 0).trans (show (evC d nd key wt)[0]? = some (.int .i64 d) from rfl))
  have e1q := cell_regrown ((hE.cell 1).trans (show (evC d nd key wt)[1]? = some (.int .i64 nd) from rfl))
  have e3q := cell_regrown ((hE.cell 3).trans (show (evC d nd key wt)[3]? = some (.int .i64 wt) from rfl))
  have HB := Lib.hid (fun d' os => hE.below.trans ((below_regrown (w.alloc (.cells (evC d nd key wt) 28)) d' os).mono (by simp)))
  clear hE hh hl hO1 hO h
  have key : ∀ X : Int, X = P.may d nd wt → Calls Try.prog 25 #[.pointer (some ⟨g, 0, none⟩), .agg (evC d nd key wt)] w fun e w' => e = .returned (.int .i64 X) ∧ Below w.heap.size w w' := by
    intro X hX0
    have hX := hP X hX0
    clear hP hX0
    unfold evC at *
    by_cases h1 : d < 1 ∨ 4 < d
    · obtain rfl : X = 1 := by rw [hX, if_pos h1]
      clear hX
      rcases h1 with h1 | h1
      · go_enter Try.func25, Try.ntmps25
        go_wp2_with fail
        refine wp_region_quiet_below (by kernel_rfl) (by kernel_rfl) ?_
        repeat (first | go_big_quiet_step ((first | (go_at_call 43; with_reducible exact Calls.regrown_of ((fail))))) | quiet_step ((first | (go_at_call 43; with_reducible exact Calls.regrown_of ((fail))))))
        refine wpQuiet_nil ?_
        intro _ hw'
        obtain ⟨⟨dq, osq⟩, hw''⟩ := hw'
        subst hw''
        have f0 := e0q dq osq
        have f1 := e1q dq osq
        have f3 := e3q dq osq
        have HBB := Lib.hid (HB.out dq osq)
        have HO3 := Lib.hid (HO.out.under (below_regrown _ dq osq))
        clear e0q e1q e3q c4q lq HB
        generalize (Go.Sort.grow (redrawn _ dq) osq) = w3 at *
        go_wp2_with fail
        go_ret
        exact ⟨rfl, HBB.out⟩
      · go_enter Try.func25, Try.ntmps25
        go_wp2_with fail
        refine wp_region_quiet_below (by kernel_rfl) (by kernel_rfl) ?_
        repeat (first | go_big_quiet_step ((first | (go_at_call 43; with_reducible exact Calls.regrown_of ((fail))))) | quiet_step ((first | (go_at_call 43; with_reducible exact Calls.regrown_of ((fail))))))
        refine wpQuiet_nil ?_
        intro _ hw'
        obtain ⟨⟨dq, osq⟩, hw''⟩ := hw'
        subst hw''
        have f0 := e0q dq osq
        have f1 := e1q dq osq
        have f3 := e3q dq osq
        have HBB := Lib.hid (HB.out dq osq)
        have HO3 := Lib.hid (HO.out.under (below_regrown _ dq osq))
        clear e0q e1q e3q c4q lq HB
        generalize (Go.Sort.grow (redrawn _ dq) osq) = w3 at *
        go_wp2_with fail
        go_ret
        exact ⟨rfl, HBB.out⟩
    · rw [if_neg h1] at hX
      have h2 : d = 1 ∨ d = 2 ∨ d = 3 ∨ d = 4 := by omega
      clear h1
      rcases h2 with rfl | rfl | rfl | rfl
      · by_cases h3 : nd < 1
        · obtain rfl : X = 1 := by rw [hX, if_pos ⟨rfl, .inl h3⟩]
          clear hX
          go_enter Try.func25, Try.ntmps25
          go_wp2_with fail
          refine wp_region_quiet_below (by kernel_rfl) (by kernel_rfl) ?_
          repeat (first | go_big_quiet_step ((first | (go_at_call 43; with_reducible exact Calls.regrown_of ((fail))))) | quiet_step ((first | (go_at_call 43; with_reducible exact Calls.regrown_of ((fail))))))
          refine wpQuiet_nil ?_
          intro _ hw'
          obtain ⟨⟨dq, osq⟩, hw''⟩ := hw'
          subst hw''
          have f0 := e0q dq osq
          have f1 := e1q dq osq
          have f3 := e3q dq osq
          have HBB := Lib.hid (HB.out dq osq)
          have HO3 := Lib.hid (HO.out.under (below_regrown _ dq osq))
          clear e0q e1q e3q c4q lq HB
          generalize (Go.Sort.grow (redrawn _ dq) osq) = w3 at *
          go_wp2_with fail
          go_ret
          exact ⟨rfl, HBB.out⟩
        · by_cases h4 : 65536 < nd
          · obtain rfl : X = 1 := by rw [hX, if_pos ⟨rfl, .inr h4⟩]
            clear hX
            go_enter Try.func25, Try.ntmps25
            go_wp2_with fail
            refine wp_region_quiet_below (by kernel_rfl) (by kernel_rfl) ?_
            repeat (first | go_big_quiet_step ((first | (go_at_call 43; with_reducible exact Calls.regrown_of ((fail))))) | quiet_step ((first | (go_at_call 43; with_reducible exact Calls.regrown_of ((fail))))))
            refine wpQuiet_nil ?_
            intro _ hw'
            obtain ⟨⟨dq, osq⟩, hw''⟩ := hw'
            subst hw''
            have f0 := e0q dq osq
            have f1 := e1q dq osq
            have f3 := e3q dq osq
            have HBB := Lib.hid (HB.out dq osq)
            have HO3 := Lib.hid (HO.out.under (below_regrown _ dq osq))
            clear e0q e1q e3q c4q lq HB
            generalize (Go.Sort.grow (redrawn _ dq) osq) = w3 at *
            go_wp2_with fail
            go_ret
            exact ⟨rfl, HBB.out⟩
          · rw [if_neg (by omega), if_neg (by omega), if_neg (by omega)] at hX
            by_cases h5 : hv = 0
            · subst h5
              rw [if_neg (by omega)] at hX
              cases is with
              | true =>
                rw [if_pos ⟨rfl, rfl⟩] at hX
                subst hX
                go_enter Try.func25, Try.ntmps25
                go_wp2_with fail
                refine wp_region_quiet_below (by kernel_rfl) (by kernel_rfl) ?_
                repeat (first | go_big_quiet_step ((first | (go_at_call 43; with_reducible exact Calls.regrown_of ((fail))))) | quiet_step ((first | (go_at_call 43; with_reducible exact Calls.regrown_of ((fail))))))
                refine wpQuiet_nil ?_
                intro _ hw'
                obtain ⟨⟨dq, osq⟩, hw''⟩ := hw'
                subst hw''
                have f0 := e0q dq osq
                have f1 := e1q dq osq
                have f3 := e3q dq osq
                have HBB := Lib.hid (HB.out dq osq)
                have HO3 := Lib.hid (HO.out.under (below_regrown _ dq osq))
                clear e0q e1q e3q c4q lq HB
                generalize (Go.Sort.grow (redrawn _ dq) osq) = w3 at *
                go_wp2_with (go_at_call 43; refine (HH.out _ HO3.out).mono ?_; rintro e w4 ⟨rfl, rfl⟩)
                go_ret
                exact ⟨rfl, HBB.out⟩
              | false =>
                rw [if_neg (by simp)] at hX
                subst hX
                go_enter Try.func25, Try.ntmps25
                go_wp2_with fail
                refine wp_region_quiet_below (by kernel_rfl) (by kernel_rfl) ?_
                repeat (first | go_big_quiet_step ((first | (go_at_call 43; with_reducible exact Calls.regrown_of ((fail))))) | quiet_step ((first | (go_at_call 43; with_reducible exact Calls.regrown_of ((fail))))))
                refine wpQuiet_nil ?_
                intro _ hw'
                obtain ⟨⟨dq, osq⟩, hw''⟩ := hw'
                subst hw''
                have f0 := e0q dq osq
                have f1 := e1q dq osq
                have f3 := e3q dq osq
                have HBB := Lib.hid (HB.out dq osq)
                have HO3 := Lib.hid (HO.out.under (below_regrown _ dq osq))
                clear e0q e1q e3q c4q lq HB
                generalize (Go.Sort.grow (redrawn _ dq) osq) = w3 at *
                go_wp2_with (go_at_call 43; refine (HH.out _ HO3.out).mono ?_; rintro e w4 ⟨rfl, rfl⟩)
                go_ret
                exact ⟨rfl, HBB.out⟩
            · rw [if_pos h5] at hX
              subst hX
              have d5 : decide (X = 0) = false := by simp; exact h5
              go_enter Try.func25, Try.ntmps25
              go_wp2_with fail
              refine wp_region_quiet_below (by kernel_rfl) (by kernel_rfl) ?_
              repeat (first | go_big_quiet_step ((first | (go_at_call 43; with_reducible exact Calls.regrown_of ((fail))))) | quiet_step ((first | (go_at_call 43; with_reducible exact Calls.regrown_of ((fail))))))
              refine wpQuiet_nil ?_
              intro _ hw'
              obtain ⟨⟨dq, osq⟩, hw''⟩ := hw'
              subst hw''
              have f0 := e0q dq osq
              have f1 := e1q dq osq
              have f3 := e3q dq osq
              have HBB := Lib.hid (HB.out dq osq)
              have HO3 := Lib.hid (HO.out.under (below_regrown _ dq osq))
              clear e0q e1q e3q c4q lq HB
              generalize (Go.Sort.grow (redrawn _ dq) osq) = w3 at *
              go_wp2_with (go_at_call 43; refine (HH.out _ HO3.out).mono ?_; rintro e w4 ⟨rfl, rfl⟩)
              go_ret
              exact ⟨rfl, HBB.out⟩
      · cases is with
        | true =>
          rw [if_neg (by omega), if_neg (by simp), if_pos (.inl rfl)] at hX
          subst hX
          go_enter Try.func25, Try.ntmps25
          go_wp2_with fail
          refine wp_region_quiet_below (by kernel_rfl) (by kernel_rfl) ?_
          repeat (first | go_big_quiet_step ((first | (go_at_call 43; with_reducible exact Calls.regrown_of ((fail))))) | quiet_step ((first | (go_at_call 43; with_reducible exact Calls.regrown_of ((fail))))))
          refine wpQuiet_nil ?_
          intro _ hw'
          obtain ⟨⟨dq, osq⟩, hw''⟩ := hw'
          subst hw''
          have f0 := e0q dq osq
          have f1 := e1q dq osq
          have f3 := e3q dq osq
          have HBB := Lib.hid (HB.out dq osq)
          have HO3 := Lib.hid (HO.out.under (below_regrown _ dq osq))
          clear e0q e1q e3q c4q lq HB
          generalize (Go.Sort.grow (redrawn _ dq) osq) = w3 at *
          go_wp2_with fail
          go_ret
          exact ⟨rfl, HBB.out⟩
        | false =>
          rw [if_neg (by omega), if_pos ⟨by omega, rfl⟩] at hX
          subst hX
          go_enter Try.func25, Try.ntmps25
          go_wp2_with fail
          refine wp_region_quiet_below (by kernel_rfl) (by kernel_rfl) ?_
          repeat (first | go_big_quiet_step ((first | (go_at_call 43; with_reducible exact Calls.regrown_of ((fail))))) | quiet_step ((first | (go_at_call 43; with_reducible exact Calls.regrown_of ((fail))))))
          refine wpQuiet_nil ?_
          intro _ hw'
          obtain ⟨⟨dq, osq⟩, hw''⟩ := hw'
          subst hw''
          have f0 := e0q dq osq
          have f1 := e1q dq osq
          have f3 := e3q dq osq
          have HBB := Lib.hid (HB.out dq osq)
          have HO3 := Lib.hid (HO.out.under (below_regrown _ dq osq))
          clear e0q e1q e3q c4q lq HB
          generalize (Go.Sort.grow (redrawn _ dq) osq) = w3 at *
          go_wp2_with fail
          go_ret
          exact ⟨rfl, HBB.out⟩
      · cases is with
        | true =>
          rw [if_neg (by omega), if_neg (by simp), if_neg (by omega)] at hX
          by_cases h5 : hv = 0
          · subst h5
            rw [if_neg (by omega), if_neg (by omega)] at hX
            subst hX
            go_enter Try.func25, Try.ntmps25
            go_wp2_with fail
            refine wp_region_quiet_below (by kernel_rfl) (by kernel_rfl) ?_
            repeat (first | go_big_quiet_step ((first | (go_at_call 43; with_reducible exact Calls.regrown_of ((fail))))) | quiet_step ((first | (go_at_call 43; with_reducible exact Calls.regrown_of ((fail))))))
            refine wpQuiet_nil ?_
            intro _ hw'
            obtain ⟨⟨dq, osq⟩, hw''⟩ := hw'
            subst hw''
            have f0 := e0q dq osq
            have f1 := e1q dq osq
            have f3 := e3q dq osq
            have HBB := Lib.hid (HB.out dq osq)
            have HO3 := Lib.hid (HO.out.under (below_regrown _ dq osq))
            clear e0q e1q e3q c4q lq HB
            generalize (Go.Sort.grow (redrawn _ dq) osq) = w3 at *
            go_wp2_with (go_at_call 43; refine (HH.out _ HO3.out).mono ?_; rintro e w4 ⟨rfl, rfl⟩)
            go_ret
            exact ⟨rfl, HBB.out⟩
          · rw [if_pos h5] at hX
            subst hX
            have d5 : decide (X = 0) = false := by simp; exact h5
            go_enter Try.func25, Try.ntmps25
            go_wp2_with fail
            refine wp_region_quiet_below (by kernel_rfl) (by kernel_rfl) ?_
            repeat (first | go_big_quiet_step ((first | (go_at_call 43; with_reducible exact Calls.regrown_of ((fail))))) | quiet_step ((first | (go_at_call 43; with_reducible exact Calls.regrown_of ((fail))))))
            refine wpQuiet_nil ?_
            intro _ hw'
            obtain ⟨⟨dq, osq⟩, hw''⟩ := hw'
            subst hw''
            have f0 := e0q dq osq
            have f1 := e1q dq osq
            have f3 := e3q dq osq
            have HBB := Lib.hid (HB.out dq osq)
            have HO3 := Lib.hid (HO.out.under (below_regrown _ dq osq))
            clear e0q e1q e3q c4q lq HB
            generalize (Go.Sort.grow (redrawn _ dq) osq) = w3 at *
            go_wp2_with (go_at_call 43; refine (HH.out _ HO3.out).mono ?_; rintro e w4 ⟨rfl, rfl⟩)
            go_ret
            exact ⟨rfl, HBB.out⟩
        | false =>
          rw [if_neg (by omega), if_pos ⟨by omega, rfl⟩] at hX
          subst hX
          go_enter Try.func25, Try.ntmps25
          go_wp2_with fail
          refine wp_region_quiet_below (by kernel_rfl) (by kernel_rfl) ?_
          repeat (first | go_big_quiet_step ((first | (go_at_call 43; with_reducible exact Calls.regrown_of ((fail))))) | quiet_step ((first | (go_at_call 43; with_reducible exact Calls.regrown_of ((fail))))))
          refine wpQuiet_nil ?_
          intro _ hw'
          obtain ⟨⟨dq, osq⟩, hw''⟩ := hw'
          subst hw''
          have f0 := e0q dq osq
          have f1 := e1q dq osq
          have f3 := e3q dq osq
          have HBB := Lib.hid (HB.out dq osq)
          have HO3 := Lib.hid (HO.out.under (below_regrown _ dq osq))
          clear e0q e1q e3q c4q lq HB
          generalize (Go.Sort.grow (redrawn _ dq) osq) = w3 at *
          go_wp2_with fail
          go_ret
          exact ⟨rfl, HBB.out⟩
      · cases is with
        | true =>
          rw [if_neg (by omega), if_neg (by simp), if_pos (.inr rfl)] at hX
          subst hX
          go_enter Try.func25, Try.ntmps25
          go_wp2_with fail
          refine wp_region_quiet_below (by kernel_rfl) (by kernel_rfl) ?_
          repeat (first | go_big_quiet_step ((first | (go_at_call 43; with_reducible exact Calls.regrown_of ((fail))))) | quiet_step ((first | (go_at_call 43; with_reducible exact Calls.regrown_of ((fail))))))
          refine wpQuiet_nil ?_
          intro _ hw'
          obtain ⟨⟨dq, osq⟩, hw''⟩ := hw'
          subst hw''
          have f0 := e0q dq osq
          have f1 := e1q dq osq
          have f3 := e3q dq osq
          have HBB := Lib.hid (HB.out dq osq)
          have HO3 := Lib.hid (HO.out.under (below_regrown _ dq osq))
          clear e0q e1q e3q c4q lq HB
          generalize (Go.Sort.grow (redrawn _ dq) osq) = w3 at *
          go_wp2_with fail
          go_ret
          exact ⟨rfl, HBB.out⟩
        | false =>
          rw [if_neg (by omega), if_pos ⟨by omega, rfl⟩] at hX
          subst hX
          go_enter Try.func25, Try.ntmps25
          go_wp2_with fail
          refine wp_region_quiet_below (by kernel_rfl) (by kernel_rfl) ?_
          repeat (first | go_big_quiet_step ((first | (go_at_call 43; with_reducible exact Calls.regrown_of ((fail))))) | quiet_step ((first | (go_at_call 43; with_reducible exact Calls.regrown_of ((fail))))))
          refine wpQuiet_nil ?_
          intro _ hw'
          obtain ⟨⟨dq, osq⟩, hw''⟩ := hw'
          subst hw''
          have f0 := e0q dq osq
          have f1 := e1q dq osq
          have f3 := e3q dq osq
          have HBB := Lib.hid (HB.out dq osq)
          have HO3 := Lib.hid (HO.out.under (below_regrown _ dq osq))
          clear e0q e1q e3q c4q lq HB
          generalize (Go.Sort.grow (redrawn _ dq) osq) = w3 at *
          go_wp2_with fail
          go_ret
          exact ⟨rfl, HBB.out⟩
  exact key _ rfl
end
end Go.Proofs.Ytnhdjpeadhcajaa
