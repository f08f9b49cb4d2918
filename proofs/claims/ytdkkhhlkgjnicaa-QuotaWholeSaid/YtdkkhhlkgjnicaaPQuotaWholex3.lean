-- PRINTED BY print.sh 35421559b90ae4d0a3588c463048766b98c2df88dd9212a6774a882060cdf62d: not written by this session
import Derived.Test.YtdkkhhlkgjnicaaPQuotaWholex0
import Derived.Test.YtdkkhhlkgjnicaaPQuotaWholex2
namespace Go.Proofs.Ytdkkhhlkgjnicaa.PQuotaWhole
open Go.RowKit Go.Proofs.YtdkkhhlkgjnicaaW.PrintWords Go.Proofs.YtdkkhhlkgjnicaaW.PrintLast Go.Proofs.YtdkkhhlkgjnicaaW.PrintMore
attribute [local go_sem] max2_int min2_int max_two min_two max_three min_three max_four min_four   -- for this text's walks alone
set_option linter.unusedVariables false
set_option linter.unusedSimpArgs false

/-! ### pantrylaw09_QuotaWhole: function 4 -/
mutual
def pantrylaw09_QuotaWhole.l0 : Nat → Int → Bool → List (S23) → Int → Option (Bool)
  | 0, _, _, _, _ => none
  | k + 1, x0, x7, x8, x9 => if x9 < 3 then (if 0 ≤ x9 then (if x9 < (x8.length : Int) then ((quota_Main.f ((rd_T23 x8 x9).f0) ((rd_T23 x8 x9).f1) ((rd_T23 x8 x9).f2)).bind fun t165 => ((quota_Right.f ((rd_T23 x8 x9).f0) ((rd_T23 x8 x9).f1) ((rd_T23 x8 x9).f2)).bind fun t166 => (if t166 = true then (if ((rd_T23 x8 x9).f1) < 0 then (pantrylaw09_QuotaWhole.j1 k x0 x7 x8 x9 true ((rd_T23 x8 x9).f0) ((rd_T23 x8 x9).f1) ((rd_T23 x8 x9).f2)) else (if ((rd_T23 x8 x9).f2) < 0 then (pantrylaw09_QuotaWhole.j1 k x0 x7 x8 x9 true ((rd_T23 x8 x9).f0) ((rd_T23 x8 x9).f1) ((rd_T23 x8 x9).f2)) else (if (wrap64 (t165 - ((rd_T23 x8 x9).f2))) < 0 then (pantrylaw09_QuotaWhole.j1 k x0 x7 x8 x9 true ((rd_T23 x8 x9).f0) ((rd_T23 x8 x9).f1) ((rd_T23 x8 x9).f2)) else (if (wrap64 ((wrap64 (((rd_T23 x8 x9).f1) + ((rd_T23 x8 x9).f2))) + (wrap64 (t165 - ((rd_T23 x8 x9).f2))))) = ((rd_T23 x8 x9).f0) then (if ((rd_T23 x8 x9).f0) < 0 then (pantrylaw09_QuotaWhole.j1 k x0 x7 x8 x9 true ((rd_T23 x8 x9).f0) ((rd_T23 x8 x9).f1) ((rd_T23 x8 x9).f2)) else (if ((rd_T23 x8 x9).f0) > 4611686018427387903 then (pantrylaw09_QuotaWhole.j1 k x0 x7 x8 x9 true ((rd_T23 x8 x9).f0) ((rd_T23 x8 x9).f1) ((rd_T23 x8 x9).f2)) else (if ((rd_T23 x8 x9).f0) > 0 then (if ((rd_T23 x8 x9).f1) < 1 then (pantrylaw09_QuotaWhole.j1 k x0 x7 x8 x9 true ((rd_T23 x8 x9).f0) ((rd_T23 x8 x9).f1) ((rd_T23 x8 x9).f2)) else ((quota_Main.f ((rd_T23 x8 x9).f0) ((rd_T23 x8 x9).f1) ((rd_T23 x8 x9).f2)).bind fun t167 => (pantrylaw09_QuotaWhole.j1 k x0 x7 x8 x9 ((wrap64 (t165 - ((rd_T23 x8 x9).f2))) != (wrap64 (Int.tdiv t167 5))) ((rd_T23 x8 x9).f0) ((rd_T23 x8 x9).f1) ((rd_T23 x8 x9).f2)))) else ((quota_Main.f ((rd_T23 x8 x9).f0) ((rd_T23 x8 x9).f1) ((rd_T23 x8 x9).f2)).bind fun t168 => (pantrylaw09_QuotaWhole.j1 k x0 x7 x8 x9 ((wrap64 (t165 - ((rd_T23 x8 x9).f2))) != (wrap64 (Int.tdiv t168 5))) ((rd_T23 x8 x9).f0) ((rd_T23 x8 x9).f1) ((rd_T23 x8 x9).f2)))))) else (pantrylaw09_QuotaWhole.j1 k x0 x7 x8 x9 true ((rd_T23 x8 x9).f0) ((rd_T23 x8 x9).f1) ((rd_T23 x8 x9).f2)))))) else (pantrylaw09_QuotaWhole.j1 k x0 x7 x8 x9 true ((rd_T23 x8 x9).f0) ((rd_T23 x8 x9).f1) ((rd_T23 x8 x9).f2))))) else (none)) else (none)) else (some x7)
def pantrylaw09_QuotaWhole.j1 : Nat → Int → Bool → List (S23) → Int → Bool → Int → Int → Int → Option (Bool)
  | 0, _, _, _, _, _, _, _, _ => none
  | k + 1, x0, x7, x8, x9, x94, x165000, x165001, x165002 => if x94 = true then (some false) else (if x0 ≥ 0 then (if x0 ≤ 4611686018427387903 then (if x165000 = x0 then (pantrylaw09_QuotaWhole.l0 k x0 x7 x8 (wrap64 (x9 + 1))) else (some false)) else (pantrylaw09_QuotaWhole.l0 k x0 x7 x8 (wrap64 (x9 + 1)))) else (pantrylaw09_QuotaWhole.l0 k x0 x7 x8 (wrap64 (x9 + 1))))
end
def pantrylaw09_QuotaWhole.f (k : Nat) (a0 : Int) (a1 : Int) (a2 : Int) : Option (Bool) := (pantrylaw09_small.f).bind fun t141 => ((quota_Of.f a0).bind fun bt142 => ((quota_Of.f a0).bind fun bt145 => ((quota_Shift.f bt145.1 bt145.2.1 bt145.2.2 a1).bind fun bt148 => ((quota_Of.f a0).bind fun bt151 => ((quota_Shift.f bt151.1 bt151.2.1 bt151.2.2 a1).bind fun bt154 => ((quota_Shift.f bt154.1 bt154.2.1 bt154.2.2 a2).bind fun bt157 => (pantrylaw09_QuotaWhole.l0 k a0 t141 (([(⟨bt142.1, bt142.2.1, bt142.2.2⟩ : S23), (⟨bt148.1, bt148.2.1, bt148.2.2⟩ : S23), (⟨bt157.1, bt157.2.1, bt157.2.2⟩ : S23)] : List (S23))) 0)))))))
theorem pantrylaw09_QuotaWhole.mono_l : ∀ k, (∀ y0 y1 y2 y3, LeO (pantrylaw09_QuotaWhole.l0 k y0 y1 y2 y3) (pantrylaw09_QuotaWhole.l0 (k + 1) y0 y1 y2 y3)) ∧ (∀ y0 y1 y2 y3 y4 y5 y6 y7, LeO (pantrylaw09_QuotaWhole.j1 k y0 y1 y2 y3 y4 y5 y6 y7) (pantrylaw09_QuotaWhole.j1 (k + 1) y0 y1 y2 y3 y4 y5 y6 y7))
  | 0 => ⟨fun _ _ _ _ r h => by simp [pantrylaw09_QuotaWhole.l0] at h, fun _ _ _ _ _ _ _ _ r h => by simp [pantrylaw09_QuotaWhole.j1] at h⟩
  | k + 1 => by
    obtain ⟨ih0, ih1⟩ := pantrylaw09_QuotaWhole.mono_l k
    refine ⟨?_, ?_⟩
    · intro y0 y1 y2 y3
      unfold pantrylaw09_QuotaWhole.l0
      repeat' first
      | (with_reducible exact ih0 _ _ _ _)
      | (with_reducible exact ih1 _ _ _ _ _ _ _ _)
      | (with_reducible exact LeO.refl _)
      | (with_reducible exact LeO.none _)
      | (with_reducible refine LeO.ite ?_ ?_)
      | (with_reducible refine LeO.bind ?_ (fun _ => ?_))
      | exact ih0 _ _ _ _
      | exact ih1 _ _ _ _ _ _ _ _
      | exact LeO.none _
      | refine LeO.ite ?_ ?_
      | refine LeO.bind ?_ (fun _ => ?_)
    · intro y0 y1 y2 y3 y4 y5 y6 y7
      unfold pantrylaw09_QuotaWhole.j1
      repeat' first
      | (with_reducible exact ih0 _ _ _ _)
      | (with_reducible exact ih1 _ _ _ _ _ _ _ _)
      | (with_reducible exact LeO.refl _)
      | (with_reducible exact LeO.none _)
      | (with_reducible refine LeO.ite ?_ ?_)
      | (with_reducible refine LeO.bind ?_ (fun _ => ?_))
      | exact ih0 _ _ _ _
      | exact ih1 _ _ _ _ _ _ _ _
      | exact LeO.none _
      | refine LeO.ite ?_ ?_
      | refine LeO.bind ?_ (fun _ => ?_)
theorem pantrylaw09_QuotaWhole.mono : ∀ a0 a1 a2 k, LeO (pantrylaw09_QuotaWhole.f k a0 a1 a2) (pantrylaw09_QuotaWhole.f (k + 1) a0 a1 a2) := by
  intro a0 a1 a2 k
  obtain ⟨ih0, ih1⟩ := pantrylaw09_QuotaWhole.mono_l k
  unfold pantrylaw09_QuotaWhole.f
  repeat' first
      | (with_reducible exact ih0 _ _ _ _)
      | (with_reducible exact ih1 _ _ _ _ _ _ _ _)
      | (with_reducible exact LeO.refl _)
      | (with_reducible exact LeO.none _)
      | (with_reducible refine LeO.ite ?_ ?_)
      | (with_reducible refine LeO.bind ?_ (fun _ => ?_))
      | exact ih0 _ _ _ _
      | exact ih1 _ _ _ _ _ _ _ _
      | exact LeO.none _
      | refine LeO.ite ?_ ?_
      | refine LeO.bind ?_ (fun _ => ?_)
set_option maxHeartbeats 8000000 in
set_option maxRecDepth 100000 in
theorem pantrylaw09_QuotaWhole.calls (k : Nat) (a0 : Int) (a1 : Int) (a2 : Int) (r : Bool) (w : World) (h : pantrylaw09_QuotaWhole.f k a0 a1 a2 = some r) :
    Calls Try.prog 4 #[.int .i64 a0, .int .i64 a1, .int .i64 a2] w fun e w' => e = .returned (.bool r) ∧ Below w.heap.size w w' := by
  have hu23 := Try.underlying23
  have HB := Aside0.mk (Below.refl w.heap.size w)
  have H : ((pantrylaw09_small.f).bind fun t141 => ((quota_Of.f a0).bind fun bt142 => ((quota_Of.f a0).bind fun bt145 => ((quota_Shift.f bt145.1 bt145.2.1 bt145.2.2 a1).bind fun bt148 => ((quota_Of.f a0).bind fun bt151 => ((quota_Shift.f bt151.1 bt151.2.1 bt151.2.2 a1).bind fun bt154 => ((quota_Shift.f bt154.1 bt154.2.1 bt154.2.2 a2).bind fun bt157 => (pantrylaw09_QuotaWhole.l0 k a0 t141 (([(⟨bt142.1, bt142.2.1, bt142.2.2⟩ : S23), (⟨bt148.1, bt148.2.1, bt148.2.2⟩ : S23), (⟨bt157.1, bt157.2.1, bt157.2.2⟩ : S23)] : List (S23))) 0)))))))) = some r := h
  clear h
  replace H := Option.bind_eq_some_iff.mp H
  obtain ⟨t141, A40, H⟩ := H
  replace H : ((quota_Of.f a0).bind fun bt142 => ((quota_Of.f a0).bind fun bt145 => ((quota_Shift.f bt145.1 bt145.2.1 bt145.2.2 a1).bind fun bt148 => ((quota_Of.f a0).bind fun bt151 => ((quota_Shift.f bt151.1 bt151.2.1 bt151.2.2 a1).bind fun bt154 => ((quota_Shift.f bt154.1 bt154.2.1 bt154.2.2 a2).bind fun bt157 => (pantrylaw09_QuotaWhole.l0 k a0 t141 (([(⟨bt142.1, bt142.2.1, bt142.2.2⟩ : S23), (⟨bt148.1, bt148.2.1, bt148.2.2⟩ : S23), (⟨bt157.1, bt157.2.1, bt157.2.2⟩ : S23)] : List (S23))) 0))))))) = some r := H
  have A4 := Aside0.mk A40
  clear A40
  replace H := Option.bind_eq_some_iff.mp H
  obtain ⟨⟨t142, t143, t144⟩, A50, H⟩ := H
  replace H : ((quota_Of.f a0).bind fun bt145 => ((quota_Shift.f bt145.1 bt145.2.1 bt145.2.2 a1).bind fun bt148 => ((quota_Of.f a0).bind fun bt151 => ((quota_Shift.f bt151.1 bt151.2.1 bt151.2.2 a1).bind fun bt154 => ((quota_Shift.f bt154.1 bt154.2.1 bt154.2.2 a2).bind fun bt157 => (pantrylaw09_QuotaWhole.l0 k a0 t141 (([(⟨t142, t143, t144⟩ : S23), (⟨bt148.1, bt148.2.1, bt148.2.2⟩ : S23), (⟨bt157.1, bt157.2.1, bt157.2.2⟩ : S23)] : List (S23))) 0)))))) = some r := H
  have A5 := Aside0.mk A50
  clear A50
  replace H := Option.bind_eq_some_iff.mp H
  obtain ⟨⟨t145, t146, t147⟩, A60, H⟩ := H
  replace H : ((quota_Shift.f t145 t146 t147 a1).bind fun bt148 => ((quota_Of.f a0).bind fun bt151 => ((quota_Shift.f bt151.1 bt151.2.1 bt151.2.2 a1).bind fun bt154 => ((quota_Shift.f bt154.1 bt154.2.1 bt154.2.2 a2).bind fun bt157 => (pantrylaw09_QuotaWhole.l0 k a0 t141 (([(⟨t142, t143, t144⟩ : S23), (⟨bt148.1, bt148.2.1, bt148.2.2⟩ : S23), (⟨bt157.1, bt157.2.1, bt157.2.2⟩ : S23)] : List (S23))) 0))))) = some r := H
  have A6 := Aside0.mk A60
  clear A60
  replace H := Option.bind_eq_some_iff.mp H
  obtain ⟨⟨t148, t149, t150⟩, A70, H⟩ := H
  replace H : ((quota_Of.f a0).bind fun bt151 => ((quota_Shift.f bt151.1 bt151.2.1 bt151.2.2 a1).bind fun bt154 => ((quota_Shift.f bt154.1 bt154.2.1 bt154.2.2 a2).bind fun bt157 => (pantrylaw09_QuotaWhole.l0 k a0 t141 (([(⟨t142, t143, t144⟩ : S23), (⟨t148, t149, t150⟩ : S23), (⟨bt157.1, bt157.2.1, bt157.2.2⟩ : S23)] : List (S23))) 0)))) = some r := H
  have A7 := Aside0.mk A70
  clear A70
  replace H := Option.bind_eq_some_iff.mp H
  obtain ⟨⟨t151, t152, t153⟩, A80, H⟩ := H
  replace H : ((quota_Shift.f t151 t152 t153 a1).bind fun bt154 => ((quota_Shift.f bt154.1 bt154.2.1 bt154.2.2 a2).bind fun bt157 => (pantrylaw09_QuotaWhole.l0 k a0 t141 (([(⟨t142, t143, t144⟩ : S23), (⟨t148, t149, t150⟩ : S23), (⟨bt157.1, bt157.2.1, bt157.2.2⟩ : S23)] : List (S23))) 0))) = some r := H
  have A8 := Aside0.mk A80
  clear A80
  replace H := Option.bind_eq_some_iff.mp H
  obtain ⟨⟨t154, t155, t156⟩, A90, H⟩ := H
  replace H : ((quota_Shift.f t154 t155 t156 a2).bind fun bt157 => (pantrylaw09_QuotaWhole.l0 k a0 t141 (([(⟨t142, t143, t144⟩ : S23), (⟨t148, t149, t150⟩ : S23), (⟨bt157.1, bt157.2.1, bt157.2.2⟩ : S23)] : List (S23))) 0)) = some r := H
  have A9 := Aside0.mk A90
  clear A90
  replace H := Option.bind_eq_some_iff.mp H
  obtain ⟨⟨t157, t158, t159⟩, A100, H⟩ := H
  replace H : (pantrylaw09_QuotaWhole.l0 k a0 t141 (([(⟨t142, t143, t144⟩ : S23), (⟨t148, t149, t150⟩ : S23), (⟨t157, t158, t159⟩ : S23)] : List (S23))) 0) = some r := H
  have A10 := Aside0.mk A100
  clear A100
  obtain ⟨y160, hy160⟩ : ∃ y_ : List (S23), y_ = (([(⟨t142, t143, t144⟩ : S23), (⟨t148, t149, t150⟩ : S23), (⟨t157, t158, t159⟩ : S23)] : List (S23))) := ⟨_, rfl⟩
  replace H : (pantrylaw09_QuotaWhole.l0 k a0 t141 y160 0) = some r := by first | (rw [hy160]; with_reducible exact H) | (have H2_ := (Option.bind_some _ _).symm.trans H; rw [hy160]; with_reducible exact H2_) | (have H2_ := (Option.bind_some _ _).symm.trans H; with_reducible exact H2_) | with_reducible exact H | (rw [hy160]; exact H) | exact H
  have Ny160 := Aside0.mk hy160
  clear hy160
  have H' := Aside0.mk H
  clear H
  go_enter Try.func4, Try.ntmps4
  go_wp2_with (first | ((with_reducible refine gate_callee (f := 7) rfl ?_); refine goesL_ (some 12) rfl rfl Try.func7 (by kernel_rfl) rfl #[] rfl (by (try simp only [List.map_toArray, List.map_cons, List.map_nil]); first | done | rfl | (simp only [List.length_drop, List.length_take]; rfl)) ?_; (with_reducible refine (pantrylaw09_small.calls  t141 _ A4.out).mono ?_); rintro e w11 ⟨rfl, hb⟩; refine ⟨_, rfl, ?_⟩; have n0_ := Aside0.mk (below_step (by repeat (first | (with_reducible first | exact HB.out | apply below_alloc | apply pw_below_drewN | apply below_drew1) | exact HB.out)) hb); clear HB; have HB := n0_; clear n0_; (try clear hb); (try clear hb2); (try clear hk); (try clear hi)) | ((with_reducible refine gate_callee (f := 9) rfl ?_); refine goesL_ (some 14) rfl rfl Try.func9 (by kernel_rfl) rfl #[.int .i64 a0] rfl (by (try simp only [List.map_toArray, List.map_cons, List.map_nil]); first | done | rfl | (simp only [List.length_drop, List.length_take]; rfl)) ?_; (with_reducible refine (quota_Of.calls a0 t142 t143 t144 _ A5.out).mono ?_); rintro e w12 ⟨rfl, hb⟩; refine ⟨_, rfl, ?_⟩; have n0_ := Aside0.mk (below_step (by repeat (first | (with_reducible first | exact HB.out | apply below_alloc | apply pw_below_drewN | apply below_drew1) | exact HB.out)) hb); clear HB; have HB := n0_; clear n0_; (try clear hb); (try clear hb2); (try clear hk); (try clear hi)) | ((with_reducible refine gate_callee (f := 9) rfl ?_); refine goesL_ (some 16) rfl rfl Try.func9 (by kernel_rfl) rfl #[.int .i64 a0] rfl (by (try simp only [List.map_toArray, List.map_cons, List.map_nil]); first | done | rfl | (simp only [List.length_drop, List.length_take]; rfl)) ?_; (with_reducible refine (quota_Of.calls a0 t145 t146 t147 _ A6.out).mono ?_); rintro e w13 ⟨rfl, hb⟩; refine ⟨_, rfl, ?_⟩; have n0_ := Aside0.mk (below_step (by repeat (first | (with_reducible first | exact HB.out | apply below_alloc | apply pw_below_drewN | apply below_drew1) | exact HB.out)) hb); clear HB; have HB := n0_; clear n0_; (try clear hb); (try clear hb2); (try clear hk); (try clear hi)) | ((with_reducible refine gate_callee (f := 11) rfl ?_); refine goesL_ (some 18) rfl rfl Try.func11 (by kernel_rfl) rfl #[.agg #[.int .i64 t145, .int .i64 t146, .int .i64 t147], .int .i64 a1] rfl (by (try simp only [List.map_toArray, List.map_cons, List.map_nil]); first | done | rfl | (simp only [List.length_drop, List.length_take]; rfl)) ?_; (with_reducible refine (quota_Shift.calls t145 t146 t147 a1 t148 t149 t150 _ A7.out).mono ?_); rintro e w14 ⟨rfl, hb⟩; refine ⟨_, rfl, ?_⟩; have n0_ := Aside0.mk (below_step (by repeat (first | (with_reducible first | exact HB.out | apply below_alloc | apply pw_below_drewN | apply below_drew1) | exact HB.out)) hb); clear HB; have HB := n0_; clear n0_; (try clear hb); (try clear hb2); (try clear hk); (try clear hi)) | ((with_reducible refine gate_callee (f := 9) rfl ?_); refine goesL_ (some 20) rfl rfl Try.func9 (by kernel_rfl) rfl #[.int .i64 a0] rfl (by (try simp only [List.map_toArray, List.map_cons, List.map_nil]); first | done | rfl | (simp only [List.length_drop, List.length_take]; rfl)) ?_; (with_reducible refine (quota_Of.calls a0 t151 t152 t153 _ A8.out).mono ?_); rintro e w15 ⟨rfl, hb⟩; refine ⟨_, rfl, ?_⟩; have n0_ := Aside0.mk (below_step (by repeat (first | (with_reducible first | exact HB.out | apply below_alloc | apply pw_below_drewN | apply below_drew1) | exact HB.out)) hb); clear HB; have HB := n0_; clear n0_; (try clear hb); (try clear hb2); (try clear hk); (try clear hi)) | ((with_reducible refine gate_callee (f := 11) rfl ?_); refine goesL_ (some 22) rfl rfl Try.func11 (by kernel_rfl) rfl #[.agg #[.int .i64 t151, .int .i64 t152, .int .i64 t153], .int .i64 a1] rfl (by (try simp only [List.map_toArray, List.map_cons, List.map_nil]); first | done | rfl | (simp only [List.length_drop, List.length_take]; rfl)) ?_; (with_reducible refine (quota_Shift.calls t151 t152 t153 a1 t154 t155 t156 _ A9.out).mono ?_); rintro e w16 ⟨rfl, hb⟩; refine ⟨_, rfl, ?_⟩; have n0_ := Aside0.mk (below_step (by repeat (first | (with_reducible first | exact HB.out | apply below_alloc | apply pw_below_drewN | apply below_drew1) | exact HB.out)) hb); clear HB; have HB := n0_; clear n0_; (try clear hb); (try clear hb2); (try clear hk); (try clear hi)) | ((with_reducible refine gate_callee (f := 11) rfl ?_); refine goesL_ (some 24) rfl rfl Try.func11 (by kernel_rfl) rfl #[.agg #[.int .i64 t154, .int .i64 t155, .int .i64 t156], .int .i64 a2] rfl (by (try simp only [List.map_toArray, List.map_cons, List.map_nil]); first | done | rfl | (simp only [List.length_drop, List.length_take]; rfl)) ?_; (with_reducible refine (quota_Shift.calls t154 t155 t156 a2 t157 t158 t159 _ A10.out).mono ?_); rintro e w17 ⟨rfl, hb⟩; refine ⟨_, rfl, ?_⟩; have n0_ := Aside0.mk (below_step (by repeat (first | (with_reducible first | exact HB.out | apply below_alloc | apply pw_below_drewN | apply below_drew1) | exact HB.out)) hb); clear HB; have HB := n0_; clear n0_; (try clear hb); (try clear hb2); (try clear hk); (try clear hi)) | ((with_reducible refine gate_dst (N := 25) rfl ?_); refine Kd.R_lit k23 _ 23 ?hg (N := 25) ?hd (xs := ([(⟨t142, t143, t144⟩ : S23), (⟨t148, t149, t150⟩ : S23), (⟨t157, t158, t159⟩ : S23)] : List (S23))) (inner := [.int .i64 t142, .int .i64 t143, .int .i64 t144, .int .i64 t148, .int .i64 t149, .int .i64 t150, .int .i64 t157, .int .i64 t158, .int .i64 t159]) (ok := fun _ => True) (okp := fun _ => True) ?hr ?hp (fun _ hk => hk) trivial (Below.refl _ _) (Nat.le_refl _) (by simp) ?_; (case hd => rfl); (case hg => rfl); (case hr => first | (go_simp; done) | (go_simp; rfl)); (case hp => exact (Reps.c3 (show Kd.M k23 _ _ _ (⟨t142, t143, t144⟩ : S23) [.int .i64 t142, .int .i64 t143, .int .i64 t144] from (k23_mkM _ _ _ (⟨t142, t143, t144⟩ : S23) )) (Reps.c3 (show Kd.M k23 _ _ _ (⟨t148, t149, t150⟩ : S23) [.int .i64 t148, .int .i64 t149, .int .i64 t150] from (k23_mkM _ _ _ (⟨t148, t149, t150⟩ : S23) )) (Reps.c3 (show Kd.M k23 _ _ _ (⟨t157, t158, t159⟩ : S23) [.int .i64 t157, .int .i64 t158, .int .i64 t159] from (k23_mkM _ _ _ (⟨t157, t158, t159⟩ : S23) )) (Reps.none _ _))))); intro v161 w18 ho19 hb hg_ hnew_; clear hg_ hnew_; (first | rw [← Ny160.out] at ho19 | (simp only [Int.reduceToNat] at ho19; rw [← Ny160.out] at ho19)); have n0_ := Aside0.mk (Kd.R_lower ho19 (below_size (by repeat (first | (with_reducible first | exact HB.out | apply below_alloc | apply pw_below_drewN | apply below_drew1) | exact HB.out)))); have n1_ := Aside0.mk (below_step (by repeat (first | (with_reducible first | exact HB.out | apply below_alloc | apply pw_below_drewN | apply below_drew1) | exact HB.out)) hb); clear HB; have HO162 := n0_; have HB := n1_; clear n0_ n1_; clear hb ho19))
  go_loopg [9] k (fun kq v9 w' => ∃ (x9_1 : Int), v9 = .int .i64 x9_1 ∧ Aside0 (pantrylaw09_QuotaWhole.l0 kq a0 t141 y160 x9_1 = some r) ∧ Aside0 (kq ≤ k) ∧ Aside0 (Kd.R k23 23 w' w.heap.size (fun _ => True) v161 y160) ∧ Aside0 (Below w.heap.size w w'))
  case atStart => exact ⟨(0), (by first | rfl | (simp; done) | (simp [*]; done)), H', ⟨Nat.le_refl _⟩, ⟨by (with_reducible repeat (first | apply Kd.R_alloc | apply Kd.R_drewN | apply Kd.R_drew)); exact HO162.out⟩, ⟨by repeat (first | (with_reducible first | exact HB.out | apply below_alloc | apply pw_below_drewN | apply below_drew1) | exact HB.out)⟩⟩
  case round =>
    clear H'
    try clear c1
    try clear p2
    try clear c3
    try clear c4
    try clear c7
    try clear c9
    try clear c11
    obtain ⟨x9_1, rfl, HA, HK1, HO_8, HB⟩ := hrel
    cases gk with
    | zero => exact absurd HA.out (by simp [pantrylaw09_QuotaWhole.l0])
    | succ k1 =>
      have H := HA.out
      clear HA
      simp only [pantrylaw09_QuotaWhole.l0] at H
      by_cases c20 : x9_1 < 3
      · rw [if_pos c20] at H
        have c20b0 : decide (x9_1 < 3) = true := decide_eq_true c20
        clear c20
        by_cases c21 : 0 ≤ x9_1
        · rw [if_pos c21] at H
          have c21b0 : decide (0 ≤ x9_1) = true := decide_eq_true c21
          clear c21
          by_cases c22 : x9_1 < (y160.length : Int)
          · rw [if_pos c22] at H
            have c22b0 : decide (x9_1 < (y160.length : Int)) = true := decide_eq_true c22
            clear c22
            replace H := Option.bind_eq_some_iff.mp H
            obtain ⟨t165, A230, H⟩ := H
            replace H : ((quota_Right.f ((rd_T23 y160 x9_1).f0) ((rd_T23 y160 x9_1).f1) ((rd_T23 y160 x9_1).f2)).bind fun t166 => (if t166 = true then (if ((rd_T23 y160 x9_1).f1) < 0 then (pantrylaw09_QuotaWhole.j1 k1 a0 t141 y160 x9_1 true ((rd_T23 y160 x9_1).f0) ((rd_T23 y160 x9_1).f1) ((rd_T23 y160 x9_1).f2)) else (if ((rd_T23 y160 x9_1).f2) < 0 then (pantrylaw09_QuotaWhole.j1 k1 a0 t141 y160 x9_1 true ((rd_T23 y160 x9_1).f0) ((rd_T23 y160 x9_1).f1) ((rd_T23 y160 x9_1).f2)) else (if (wrap64 (t165 - ((rd_T23 y160 x9_1).f2))) < 0 then (pantrylaw09_QuotaWhole.j1 k1 a0 t141 y160 x9_1 true ((rd_T23 y160 x9_1).f0) ((rd_T23 y160 x9_1).f1) ((rd_T23 y160 x9_1).f2)) else (if (wrap64 ((wrap64 (((rd_T23 y160 x9_1).f1) + ((rd_T23 y160 x9_1).f2))) + (wrap64 (t165 - ((rd_T23 y160 x9_1).f2))))) = ((rd_T23 y160 x9_1).f0) then (if ((rd_T23 y160 x9_1).f0) < 0 then (pantrylaw09_QuotaWhole.j1 k1 a0 t141 y160 x9_1 true ((rd_T23 y160 x9_1).f0) ((rd_T23 y160 x9_1).f1) ((rd_T23 y160 x9_1).f2)) else (if ((rd_T23 y160 x9_1).f0) > 4611686018427387903 then (pantrylaw09_QuotaWhole.j1 k1 a0 t141 y160 x9_1 true ((rd_T23 y160 x9_1).f0) ((rd_T23 y160 x9_1).f1) ((rd_T23 y160 x9_1).f2)) else (if ((rd_T23 y160 x9_1).f0) > 0 then (if ((rd_T23 y160 x9_1).f1) < 1 then (pantrylaw09_QuotaWhole.j1 k1 a0 t141 y160 x9_1 true ((rd_T23 y160 x9_1).f0) ((rd_T23 y160 x9_1).f1) ((rd_T23 y160 x9_1).f2)) else ((quota_Main.f ((rd_T23 y160 x9_1).f0) ((rd_T23 y160 x9_1).f1) ((rd_T23 y160 x9_1).f2)).bind fun t167 => (pantrylaw09_QuotaWhole.j1 k1 a0 t141 y160 x9_1 ((wrap64 (t165 - ((rd_T23 y160 x9_1).f2))) != (wrap64 (Int.tdiv t167 5))) ((rd_T23 y160 x9_1).f0) ((rd_T23 y160 x9_1).f1) ((rd_T23 y160 x9_1).f2)))) else ((quota_Main.f ((rd_T23 y160 x9_1).f0) ((rd_T23 y160 x9_1).f1) ((rd_T23 y160 x9_1).f2)).bind fun t168 => (pantrylaw09_QuotaWhole.j1 k1 a0 t141 y160 x9_1 ((wrap64 (t165 - ((rd_T23 y160 x9_1).f2))) != (wrap64 (Int.tdiv t168 5))) ((rd_T23 y160 x9_1).f0) ((rd_T23 y160 x9_1).f1) ((rd_T23 y160 x9_1).f2)))))) else (pantrylaw09_QuotaWhole.j1 k1 a0 t141 y160 x9_1 true ((rd_T23 y160 x9_1).f0) ((rd_T23 y160 x9_1).f1) ((rd_T23 y160 x9_1).f2)))))) else (pantrylaw09_QuotaWhole.j1 k1 a0 t141 y160 x9_1 true ((rd_T23 y160 x9_1).f0) ((rd_T23 y160 x9_1).f1) ((rd_T23 y160 x9_1).f2)))) = some r := H
            have A23 := Aside0.mk A230
            clear A230
            have HC24 := Aside0.mk H
            clear H
            obtain ⟨Ao25, co25, eo25⟩ := Kd.R_slice HO_8.out
            subst eo25
            have p163 : 0 ≤ (x9_1 : Int) := of_decide_eq_true (by first | (with_reducible assumption) | assumption)
            have q163 : x9_1 < (y160.length : Int) := of_decide_eq_true (by first | (with_reducible assumption) | assumption)
            obtain ⟨ad163, e163, hx163_0, hx163_1, hx163_2⟩ := at_T23 (Kd.R_reads' HO_8.out).2.2 x9_1 p163 q163
            cases e163
            replace p163 := eq_true p163
            replace q163 := eq_true q163
            try go_wp2_with (first | ((with_reducible refine gate_dst (N := 10) rfl ?_); refine box_event ?hg (N := 10) ?hd (cs := #[.int .i64 0, .int .i64 0, .int .i64 0]) (t := 23) ?hr ?_; (case hd => rfl); (case hg => rfl); (case hr => first | (go_simp; done) | (go_simp; rfl)); intro gb164 hg w26 hbox hb; have n0_ := Aside0.mk (Kd.R_below (Kd.R_elderB (by (with_reducible repeat (first | apply Kd.R_alloc | apply Kd.R_drewN | apply Kd.R_drew)); exact HO_8.out) gb164 (Nat.le_of_eq hg.symm)) hb); have n1_ := Aside0.mk (below_step (by repeat (first | (with_reducible first | exact HB.out | apply below_alloc | apply pw_below_drewN | apply below_drew1) | exact HB.out)) hb); have n2_ := Aside0.mk (hbox); have n3_ := Aside0.mk ((by rw [hg]; exact (below_size (by repeat (first | (with_reducible first | exact HB.out | apply below_alloc | apply pw_below_drewN | apply below_drew1) | exact HB.out))) : w.heap.size ≤ gb164)); have n4_ := Aside0.mk ((by rw [hg]; exact (below_size (by repeat (first | (with_reducible first | exact HB.out | apply below_alloc | apply pw_below_drewN | apply below_drew1) | exact HB.out))) : w.heap.size ≤ gb164)); clear HO_8; clear HB; have HO_8 := n0_; have HB := n1_; have BK164 := n2_; have GW164 := n3_; have GE164 := n4_; clear n0_ n1_ n2_ n3_ n4_; clear hb hbox hg; have hcz27_0 : w26.cell? ⟨gb164, 0, none⟩ = some (.int .i64 0) := (blk_cell BK164.out 0).trans rfl; have hcz27_1 : w26.cell? ⟨gb164, 1, none⟩ = some (.int .i64 0) := (blk_cell BK164.out 1).trans rfl; have hcz27_2 : w26.cell? ⟨gb164, 2, none⟩ = some (.int .i64 0) := (blk_cell BK164.out 2).trans rfl; have hfz27_0 := blk_frozen BK164.out 0; have hfz27_1 := blk_frozen BK164.out 1; have hfz27_2 := blk_frozen BK164.out 2))
            have n0_ : Aside0 (Kd.R k23 23 (((w26.setCell ⟨gb164, 0, none⟩ (.int .i64 ((rd_T23 y160 x9_1).f0))).setCell ⟨gb164, 1, none⟩ (.int .i64 ((rd_T23 y160 x9_1).f1))).setCell ⟨gb164, 2, none⟩ (.int .i64 ((rd_T23 y160 x9_1).f2))) w.heap.size (fun k_ => k_ ≠ gb164) (.slice (some ad163) y160.length co25) y160) := ⟨by (with_reducible repeat (first | apply Kd.R_alloc | apply Kd.R_drewN | apply Kd.R_drew)); exact Kd.R_mono (Kd.R_far (p := ⟨gb164, 2, none⟩) (Kd.R_far (p := ⟨gb164, 1, none⟩) (Kd.R_far (p := ⟨gb164, 0, none⟩) (Kd.R_mono HO_8.out (fun k_ hk => (⟨hk, hk.2⟩ : _ ∧ k_ ≠ gb164))) (fun _ hk => hk.2) (.int .i64 ((rd_T23 y160 x9_1).f0))) (fun _ hk => hk.2) (.int .i64 ((rd_T23 y160 x9_1).f1))) (fun _ hk => hk.2) (.int .i64 ((rd_T23 y160 x9_1).f2))) (fun _ hk => hk.1.2)⟩
            have n1_ : Aside0 ((((w26.setCell ⟨gb164, 0, none⟩ (.int .i64 ((rd_T23 y160 x9_1).f0))).setCell ⟨gb164, 1, none⟩ (.int .i64 ((rd_T23 y160 x9_1).f1))).setCell ⟨gb164, 2, none⟩ (.int .i64 ((rd_T23 y160 x9_1).f2))).heap[gb164]? = some (.cells #[.int .i64 ((rd_T23 y160 x9_1).f0), .int .i64 ((rd_T23 y160 x9_1).f1), .int .i64 ((rd_T23 y160 x9_1).f2)] 23 (0, 0))) := ⟨by (with_reducible repeat (first | refine blk_drewN ?_ _ | refine blk_drew ?_ | refine blk_alloc ?_ _)); refine blk_put (cs := #[.int .i64 ((rd_T23 y160 x9_1).f0), .int .i64 ((rd_T23 y160 x9_1).f1), .int .i64 0]) ?_ 2 _ rfl; (with_reducible repeat (first | refine blk_drewN ?_ _ | refine blk_drew ?_ | refine blk_alloc ?_ _)); refine blk_put (cs := #[.int .i64 ((rd_T23 y160 x9_1).f0), .int .i64 0, .int .i64 0]) ?_ 1 _ rfl; (with_reducible repeat (first | refine blk_drewN ?_ _ | refine blk_drew ?_ | refine blk_alloc ?_ _)); refine blk_put (cs := #[.int .i64 0, .int .i64 0, .int .i64 0]) ?_ 0 _ rfl; (with_reducible repeat (first | refine blk_drewN ?_ _ | refine blk_drew ?_ | refine blk_alloc ?_ _)); exact BK164.out⟩
            have n2_ : Aside0 (Below w.heap.size w (((w26.setCell ⟨gb164, 0, none⟩ (.int .i64 ((rd_T23 y160 x9_1).f0))).setCell ⟨gb164, 1, none⟩ (.int .i64 ((rd_T23 y160 x9_1).f1))).setCell ⟨gb164, 2, none⟩ (.int .i64 ((rd_T23 y160 x9_1).f2)))) := ⟨by repeat (first | (with_reducible first | exact HB.out | apply below_alloc | apply pw_below_drewN | apply below_drew1 | refine below_set ?_ GE164.out) | exact HB.out)⟩
            (try clear HO_8)
            (try clear BK164)
            (try clear HB)
            generalize (((w26.setCell ⟨gb164, 0, none⟩ (.int .i64 ((rd_T23 y160 x9_1).f0))).setCell ⟨gb164, 1, none⟩ (.int .i64 ((rd_T23 y160 x9_1).f1))).setCell ⟨gb164, 2, none⟩ (.int .i64 ((rd_T23 y160 x9_1).f2))) = w28 at n0_ n1_ n2_ ⊢
            have HO_8 := n0_
            have BK164 := n1_
            have HB := n2_
            clear n0_ n1_ n2_
            have n0_ := Aside0.mk (Kd.R_drew HO_8.out)
            have n1_ := Aside0.mk (blk_drew BK164.out)
            have n2_ := Aside0.mk (below_drew1 HB.out)
            clear HO_8
            clear BK164
            clear HB
            have HO_8 := n0_
            have BK164 := n1_
            have HB := n2_
            clear n0_ n1_ n2_
            refine start_ (n := 6) (S := fun w' => w'.cell? ⟨gb164, 0, none⟩ = some (.int .i64 ((rd_T23 y160 x9_1).f0)) ∧ w'.cell? ⟨gb164, 1, none⟩ = some (.int .i64 ((rd_T23 y160 x9_1).f1)) ∧ w'.cell? ⟨gb164, 2, none⟩ = some (.int .i64 ((rd_T23 y160 x9_1).f2))) (ds := []) #[false, false, false, false, false, false] (by kernel_rfl) rfl rfl ⟨(blk_cell BK164.out 0).trans rfl, (blk_cell BK164.out 1).trans rfl, (blk_cell BK164.out 2).trans rfl⟩ (fun hHeld => ?_)
            generalize w28.drew = w29 at HO_8 BK164 HB hHeld ⊢
            refine pure_ (i := 2) (N := some 36) (v := ?_) (a' := ?_) #[false, false, true, false, false, false] rfl rfl (by kernel_rfl) (fun _ _ _ h => h) (Or.inl ⟨by rfl, ?_⟩) ?_ ?_
            rotate_left
            · intro w'
              go_simp
              with_reducible rfl
            rotate_left
            · simp only [Act.put, List.setIfInBounds_toArray, List.set_cons_zero, List.set_cons_succ, i64_w, i32_w]
              rfl
            refine take_ (i := 0) (N := some 34) (v := ?_) (a' := ?_) #[true, false, true, false, false, false] rfl rfl (by kernel_rfl) (fun _ _ _ h => h) (Or.inl ⟨by rfl, ?_⟩) hHeld ?_ ?_
            rotate_left
            · rintro w' ⟨s0, s1, s2⟩
              go_simp
              with_reducible rfl
            rotate_left
            · simp only [Act.put, List.setIfInBounds_toArray, List.set_cons_zero, List.set_cons_succ, i64_w, i32_w]
              rfl
            refine take_ (i := 3) (N := some 37) (v := ?_) (a' := ?_) #[true, false, true, true, false, false] rfl rfl (by kernel_rfl) (fun _ _ _ h => h) (Or.inl ⟨by rfl, ?_⟩) hHeld ?_ ?_
            rotate_left
            · rintro w' ⟨s0, s1, s2⟩
              go_simp
              with_reducible rfl
            rotate_left
            · simp only [Act.put, List.setIfInBounds_toArray, List.set_cons_zero, List.set_cons_succ, i64_w, i32_w]
              rfl
            refine one_ (i := 1) (N := some 35) #[true, true, true, true, false, false] rfl rfl (by kernel_rfl) (by decide) (fun K hK => ?_)
            refine goes_ Try.func13 (by kernel_rfl) rfl #[.agg #[.int .i64 ((rd_T23 y160 x9_1).f0), .int .i64 ((rd_T23 y160 x9_1).f1), .int .i64 ((rd_T23 y160 x9_1).f2)]] (by rfl) rfl rfl (by (try simp only [List.map_toArray, List.map_cons, List.map_nil]); first | done | rfl | (simp only [List.length_drop, List.length_take]; rfl)) ?_
            with_reducible refine (quota_Main.calls ((rd_T23 y160 x9_1).f0) ((rd_T23 y160 x9_1).f1) ((rd_T23 y160 x9_1).f2) t165 _ A23.out).mono ?_
            rintro e w30 ⟨rfl, hb⟩
            refine ⟨_, rfl, ?_⟩
            have n0_ := Aside0.mk (Kd.R_below (by (with_reducible repeat (first | apply Kd.R_alloc | apply Kd.R_drewN | apply Kd.R_drew)); exact HO_8.out) hb)
            have n1_ := Aside0.mk (blk_below (g := gb164) (o := .cells #[.int .i64 ((rd_T23 y160 x9_1).f0), .int .i64 ((rd_T23 y160 x9_1).f1), .int .i64 ((rd_T23 y160 x9_1).f2)] 23 (0, 0)) (by (with_reducible repeat (first | refine blk_drewN ?_ _ | refine blk_drew ?_ | refine blk_alloc ?_ _)); exact BK164.out) hb)
            have n2_ := Aside0.mk (below_step (by repeat (first | (with_reducible first | exact HB.out | apply below_alloc | apply pw_below_drewN | apply below_drew1 | refine below_set ?_ GE164.out) | exact HB.out)) hb)
            clear HO_8
            clear BK164
            clear HB
            have HO_8 := n0_
            have BK164 := n1_
            have HB := n2_
            clear n0_ n1_ n2_
            (try clear hb)
            (try clear hb2)
            (try clear hk)
            (try clear hi)
            refine hK.out _ _ ⟨(blk_cell BK164.out 0).trans rfl, (blk_cell BK164.out 1).trans rfl, (blk_cell BK164.out 2).trans rfl⟩ (fun hHeld => ?_)
            clear hK K
            refine norm_ (a' := ?_) ?_ ?_
            rotate_left
            · show Act.put _ (some 35) _ = _
              simp only [Act.put, List.setIfInBounds_toArray, List.set_cons_zero, List.set_cons_succ, i64_w, i32_w]
              rfl
            refine pure_ (i := 4) (N := some 38) (v := ?_) (a' := ?_) #[true, true, true, true, true, false] rfl rfl (by kernel_rfl) (fun _ _ _ h => h) (Or.inl ⟨by rfl, ?_⟩) ?_ ?_
            rotate_left
            · intro w'
              go_simp
              with_reducible rfl
            rotate_left
            · simp only [Act.put, List.setIfInBounds_toArray, List.set_cons_zero, List.set_cons_succ, i64_w, i32_w]
              rfl
            refine pure_ (i := 5) (N := some 11) (v := ?_) (a' := ?_) #[true, true, true, true, true, true] rfl rfl (by kernel_rfl) (fun _ _ _ h => h) (Or.inl ⟨by rfl, ?_⟩) ?_ ?_
            rotate_left
            · intro w'
              go_simp
              with_reducible rfl
            rotate_left
            · simp only [Act.put, List.setIfInBounds_toArray, List.set_cons_zero, List.set_cons_succ, i64_w, i32_w]
              rfl
            refine done_ (by kernel_rfl) ?_
            go_upto_region 8 with (fail)
            go_cut [94] (fun v94 wc => ∃ (kq : Nat) (x94_23 : Bool), v94 = .bool x94_23 ∧ Aside0 (pantrylaw09_QuotaWhole.j1 kq a0 t141 y160 x9_1 x94_23 ((rd_T23 y160 x9_1).f0) ((rd_T23 y160 x9_1).f1) ((rd_T23 y160 x9_1).f2) = some r) ∧ Aside0 (kq ≤ k1) ∧ Aside0 (Kd.R k23 23 wc w.heap.size (fun k_ => k_ ≠ gb164) (.slice (some ad163) y160.length co25) y160) ∧ Aside0 (wc.heap[gb164]? = some (.cells #[.int .i64 ((rd_T23 y160 x9_1).f0), .int .i64 ((rd_T23 y160 x9_1).f1), .int .i64 ((rd_T23 y160 x9_1).f2)] 23 (0, 0))) ∧ Aside0 (Below w.heap.size w wc))
            case first =>
              have H := HC24.out
              clear HC24
              replace H := Option.bind_eq_some_iff.mp H
              obtain ⟨t166, A310, H⟩ := H
              replace H : (if t166 = true then (if ((rd_T23 y160 x9_1).f1) < 0 then (pantrylaw09_QuotaWhole.j1 k1 a0 t141 y160 x9_1 true ((rd_T23 y160 x9_1).f0) ((rd_T23 y160 x9_1).f1) ((rd_T23 y160 x9_1).f2)) else (if ((rd_T23 y160 x9_1).f2) < 0 then (pantrylaw09_QuotaWhole.j1 k1 a0 t141 y160 x9_1 true ((rd_T23 y160 x9_1).f0) ((rd_T23 y160 x9_1).f1) ((rd_T23 y160 x9_1).f2)) else (if (wrap64 (t165 - ((rd_T23 y160 x9_1).f2))) < 0 then (pantrylaw09_QuotaWhole.j1 k1 a0 t141 y160 x9_1 true ((rd_T23 y160 x9_1).f0) ((rd_T23 y160 x9_1).f1) ((rd_T23 y160 x9_1).f2)) else (if (wrap64 ((wrap64 (((rd_T23 y160 x9_1).f1) + ((rd_T23 y160 x9_1).f2))) + (wrap64 (t165 - ((rd_T23 y160 x9_1).f2))))) = ((rd_T23 y160 x9_1).f0) then (if ((rd_T23 y160 x9_1).f0) < 0 then (pantrylaw09_QuotaWhole.j1 k1 a0 t141 y160 x9_1 true ((rd_T23 y160 x9_1).f0) ((rd_T23 y160 x9_1).f1) ((rd_T23 y160 x9_1).f2)) else (if ((rd_T23 y160 x9_1).f0) > 4611686018427387903 then (pantrylaw09_QuotaWhole.j1 k1 a0 t141 y160 x9_1 true ((rd_T23 y160 x9_1).f0) ((rd_T23 y160 x9_1).f1) ((rd_T23 y160 x9_1).f2)) else (if ((rd_T23 y160 x9_1).f0) > 0 then (if ((rd_T23 y160 x9_1).f1) < 1 then (pantrylaw09_QuotaWhole.j1 k1 a0 t141 y160 x9_1 true ((rd_T23 y160 x9_1).f0) ((rd_T23 y160 x9_1).f1) ((rd_T23 y160 x9_1).f2)) else ((quota_Main.f ((rd_T23 y160 x9_1).f0) ((rd_T23 y160 x9_1).f1) ((rd_T23 y160 x9_1).f2)).bind fun t167 => (pantrylaw09_QuotaWhole.j1 k1 a0 t141 y160 x9_1 ((wrap64 (t165 - ((rd_T23 y160 x9_1).f2))) != (wrap64 (Int.tdiv t167 5))) ((rd_T23 y160 x9_1).f0) ((rd_T23 y160 x9_1).f1) ((rd_T23 y160 x9_1).f2)))) else ((quota_Main.f ((rd_T23 y160 x9_1).f0) ((rd_T23 y160 x9_1).f1) ((rd_T23 y160 x9_1).f2)).bind fun t168 => (pantrylaw09_QuotaWhole.j1 k1 a0 t141 y160 x9_1 ((wrap64 (t165 - ((rd_T23 y160 x9_1).f2))) != (wrap64 (Int.tdiv t168 5))) ((rd_T23 y160 x9_1).f0) ((rd_T23 y160 x9_1).f1) ((rd_T23 y160 x9_1).f2)))))) else (pantrylaw09_QuotaWhole.j1 k1 a0 t141 y160 x9_1 true ((rd_T23 y160 x9_1).f0) ((rd_T23 y160 x9_1).f1) ((rd_T23 y160 x9_1).f2)))))) else (pantrylaw09_QuotaWhole.j1 k1 a0 t141 y160 x9_1 true ((rd_T23 y160 x9_1).f0) ((rd_T23 y160 x9_1).f1) ((rd_T23 y160 x9_1).f2))) = some r := H
              have A31 := Aside0.mk A310
              clear A310
              by_cases c32 : t166 = true
              · subst c32
                have H1 : (if ((rd_T23 y160 x9_1).f1) < 0 then (pantrylaw09_QuotaWhole.j1 k1 a0 t141 y160 x9_1 true ((rd_T23 y160 x9_1).f0) ((rd_T23 y160 x9_1).f1) ((rd_T23 y160 x9_1).f2)) else (if ((rd_T23 y160 x9_1).f2) < 0 then (pantrylaw09_QuotaWhole.j1 k1 a0 t141 y160 x9_1 true ((rd_T23 y160 x9_1).f0) ((rd_T23 y160 x9_1).f1) ((rd_T23 y160 x9_1).f2)) else (if (wrap64 (t165 - ((rd_T23 y160 x9_1).f2))) < 0 then (pantrylaw09_QuotaWhole.j1 k1 a0 t141 y160 x9_1 true ((rd_T23 y160 x9_1).f0) ((rd_T23 y160 x9_1).f1) ((rd_T23 y160 x9_1).f2)) else (if (wrap64 ((wrap64 (((rd_T23 y160 x9_1).f1) + ((rd_T23 y160 x9_1).f2))) + (wrap64 (t165 - ((rd_T23 y160 x9_1).f2))))) = ((rd_T23 y160 x9_1).f0) then (if ((rd_T23 y160 x9_1).f0) < 0 then (pantrylaw09_QuotaWhole.j1 k1 a0 t141 y160 x9_1 true ((rd_T23 y160 x9_1).f0) ((rd_T23 y160 x9_1).f1) ((rd_T23 y160 x9_1).f2)) else (if ((rd_T23 y160 x9_1).f0) > 4611686018427387903 then (pantrylaw09_QuotaWhole.j1 k1 a0 t141 y160 x9_1 true ((rd_T23 y160 x9_1).f0) ((rd_T23 y160 x9_1).f1) ((rd_T23 y160 x9_1).f2)) else (if ((rd_T23 y160 x9_1).f0) > 0 then (if ((rd_T23 y160 x9_1).f1) < 1 then (pantrylaw09_QuotaWhole.j1 k1 a0 t141 y160 x9_1 true ((rd_T23 y160 x9_1).f0) ((rd_T23 y160 x9_1).f1) ((rd_T23 y160 x9_1).f2)) else ((quota_Main.f ((rd_T23 y160 x9_1).f0) ((rd_T23 y160 x9_1).f1) ((rd_T23 y160 x9_1).f2)).bind fun t167 => (pantrylaw09_QuotaWhole.j1 k1 a0 t141 y160 x9_1 ((wrap64 (t165 - ((rd_T23 y160 x9_1).f2))) != (wrap64 (Int.tdiv t167 5))) ((rd_T23 y160 x9_1).f0) ((rd_T23 y160 x9_1).f1) ((rd_T23 y160 x9_1).f2)))) else ((quota_Main.f ((rd_T23 y160 x9_1).f0) ((rd_T23 y160 x9_1).f1) ((rd_T23 y160 x9_1).f2)).bind fun t168 => (pantrylaw09_QuotaWhole.j1 k1 a0 t141 y160 x9_1 ((wrap64 (t165 - ((rd_T23 y160 x9_1).f2))) != (wrap64 (Int.tdiv t168 5))) ((rd_T23 y160 x9_1).f0) ((rd_T23 y160 x9_1).f1) ((rd_T23 y160 x9_1).f2)))))) else (pantrylaw09_QuotaWhole.j1 k1 a0 t141 y160 x9_1 true ((rd_T23 y160 x9_1).f0) ((rd_T23 y160 x9_1).f1) ((rd_T23 y160 x9_1).f2)))))) = some r := by rw [if_pos rfl] at H; exact H
                clear H
                have H := H1
                clear H1
                by_cases c33 : ((rd_T23 y160 x9_1).f1) < 0
                · rw [if_pos c33] at H
                  have c33b0 : decide (((rd_T23 y160 x9_1).f1) < 0) = true := decide_eq_true c33
                  clear c33
                  (first | rw [c33b0] | (simp only [i64_w, i32_w]; rw [c33b0]) | skip)
                  have H' := Aside0.mk H
                  clear H
                  have hcz34_0 : w30.cell? ⟨gb164, 0, none⟩ = some (.int .i64 ((rd_T23 y160 x9_1).f0)) := (blk_cell BK164.out 0).trans rfl
                  have hcz34_1 : w30.cell? ⟨gb164, 1, none⟩ = some (.int .i64 ((rd_T23 y160 x9_1).f1)) := (blk_cell BK164.out 1).trans rfl
                  have hcz34_2 : w30.cell? ⟨gb164, 2, none⟩ = some (.int .i64 ((rd_T23 y160 x9_1).f2)) := (blk_cell BK164.out 2).trans rfl
                  have hfz34_0 := blk_frozen BK164.out 0
                  have hfz34_1 := blk_frozen BK164.out 1
                  have hfz34_2 := blk_frozen BK164.out 2
                  go_wp2_with (first | ((with_reducible refine gate_callee (f := 12) rfl ?_); refine goesL_ (some 40) rfl rfl Try.func12 (by kernel_rfl) rfl #[.agg #[.int .i64 ((rd_T23 y160 x9_1).f0), .int .i64 ((rd_T23 y160 x9_1).f1), .int .i64 ((rd_T23 y160 x9_1).f2)]] rfl (by (try simp only [List.map_toArray, List.map_cons, List.map_nil]); first | done | rfl | (simp only [List.length_drop, List.length_take]; rfl)) ?_; (with_reducible refine (quota_Right.calls ((rd_T23 y160 x9_1).f0) ((rd_T23 y160 x9_1).f1) ((rd_T23 y160 x9_1).f2) true _ A31.out).mono ?_); rintro e w35 ⟨rfl, hb⟩; refine ⟨_, rfl, ?_⟩; have n0_ := Aside0.mk (Kd.R_below (by (with_reducible repeat (first | apply Kd.R_alloc | apply Kd.R_drewN | apply Kd.R_drew)); exact HO_8.out) hb); have n1_ := Aside0.mk (blk_below (g := gb164) (o := .cells #[.int .i64 ((rd_T23 y160 x9_1).f0), .int .i64 ((rd_T23 y160 x9_1).f1), .int .i64 ((rd_T23 y160 x9_1).f2)] 23 (0, 0)) (by (with_reducible repeat (first | refine blk_drewN ?_ _ | refine blk_drew ?_ | refine blk_alloc ?_ _)); exact BK164.out) hb); have n2_ := Aside0.mk (below_step (by repeat (first | (with_reducible first | exact HB.out | apply below_alloc | apply pw_below_drewN | apply below_drew1 | refine below_set ?_ GE164.out) | exact HB.out)) hb); clear HO_8; clear BK164; clear HB; have HO_8 := n0_; have BK164 := n1_; have HB := n2_; clear n0_ n1_ n2_; (try clear hb); (try clear hb2); (try clear hk); (try clear hi); have hcz36_0 : w35.cell? ⟨gb164, 0, none⟩ = some (.int .i64 ((rd_T23 y160 x9_1).f0)) := (blk_cell BK164.out 0).trans rfl; have hcz36_1 : w35.cell? ⟨gb164, 1, none⟩ = some (.int .i64 ((rd_T23 y160 x9_1).f1)) := (blk_cell BK164.out 1).trans rfl; have hcz36_2 : w35.cell? ⟨gb164, 2, none⟩ = some (.int .i64 ((rd_T23 y160 x9_1).f2)) := (blk_cell BK164.out 2).trans rfl; have hfz36_0 := blk_frozen BK164.out 0; have hfz36_1 := blk_frozen BK164.out 1; have hfz36_2 := blk_frozen BK164.out 2))
                  go_meet
                  case rel => exact ⟨_, (true), (by first | rfl | (simp; done) | (simp [*]; done)), H', ⟨by have := HK1.out; first | omega | exact Nat.le_refl _⟩, ⟨by (with_reducible repeat (first | apply Kd.R_alloc | apply Kd.R_drewN | apply Kd.R_drew)); exact HO_8.out⟩, ⟨by (with_reducible repeat (first | refine blk_drewN ?_ _ | refine blk_drew ?_ | refine blk_alloc ?_ _)); exact BK164.out⟩, ⟨by repeat (first | (with_reducible first | exact HB.out | apply below_alloc | apply pw_below_drewN | apply below_drew1 | refine below_set ?_ GE164.out) | exact HB.out)⟩⟩
                · rw [if_neg c33] at H
                  have c33b0 : decide (((rd_T23 y160 x9_1).f1) < 0) = false := decide_eq_false c33
                  clear c33
                  (first | rw [c33b0] | (simp only [i64_w, i32_w]; rw [c33b0]) | skip)
                  by_cases c37 : ((rd_T23 y160 x9_1).f2) < 0
                  · rw [if_pos c37] at H
                    have c37b0 : decide (((rd_T23 y160 x9_1).f2) < 0) = true := decide_eq_true c37
                    clear c37
                    have H' := Aside0.mk H
                    clear H
                    have hcz38_0 : w30.cell? ⟨gb164, 0, none⟩ = some (.int .i64 ((rd_T23 y160 x9_1).f0)) := (blk_cell BK164.out 0).trans rfl
                    have hcz38_1 : w30.cell? ⟨gb164, 1, none⟩ = some (.int .i64 ((rd_T23 y160 x9_1).f1)) := (blk_cell BK164.out 1).trans rfl
                    have hcz38_2 : w30.cell? ⟨gb164, 2, none⟩ = some (.int .i64 ((rd_T23 y160 x9_1).f2)) := (blk_cell BK164.out 2).trans rfl
                    have hfz38_0 := blk_frozen BK164.out 0
                    have hfz38_1 := blk_frozen BK164.out 1
                    have hfz38_2 := blk_frozen BK164.out 2
                    go_wp2_with (first | ((with_reducible refine gate_callee (f := 12) rfl ?_); refine goesL_ (some 40) rfl rfl Try.func12 (by kernel_rfl) rfl #[.agg #[.int .i64 ((rd_T23 y160 x9_1).f0), .int .i64 ((rd_T23 y160 x9_1).f1), .int .i64 ((rd_T23 y160 x9_1).f2)]] rfl (by (try simp only [List.map_toArray, List.map_cons, List.map_nil]); first | done | rfl | (simp only [List.length_drop, List.length_take]; rfl)) ?_; (with_reducible refine (quota_Right.calls ((rd_T23 y160 x9_1).f0) ((rd_T23 y160 x9_1).f1) ((rd_T23 y160 x9_1).f2) true _ A31.out).mono ?_); rintro e w39 ⟨rfl, hb⟩; refine ⟨_, rfl, ?_⟩; have n0_ := Aside0.mk (Kd.R_below (by (with_reducible repeat (first | apply Kd.R_alloc | apply Kd.R_drewN | apply Kd.R_drew)); exact HO_8.out) hb); have n1_ := Aside0.mk (blk_below (g := gb164) (o := .cells #[.int .i64 ((rd_T23 y160 x9_1).f0), .int .i64 ((rd_T23 y160 x9_1).f1), .int .i64 ((rd_T23 y160 x9_1).f2)] 23 (0, 0)) (by (with_reducible repeat (first | refine blk_drewN ?_ _ | refine blk_drew ?_ | refine blk_alloc ?_ _)); exact BK164.out) hb); have n2_ := Aside0.mk (below_step (by repeat (first | (with_reducible first | exact HB.out | apply below_alloc | apply pw_below_drewN | apply below_drew1 | refine below_set ?_ GE164.out) | exact HB.out)) hb); clear HO_8; clear BK164; clear HB; have HO_8 := n0_; have BK164 := n1_; have HB := n2_; clear n0_ n1_ n2_; (try clear hb); (try clear hb2); (try clear hk); (try clear hi); have hcz40_0 : w39.cell? ⟨gb164, 0, none⟩ = some (.int .i64 ((rd_T23 y160 x9_1).f0)) := (blk_cell BK164.out 0).trans rfl; have hcz40_1 : w39.cell? ⟨gb164, 1, none⟩ = some (.int .i64 ((rd_T23 y160 x9_1).f1)) := (blk_cell BK164.out 1).trans rfl; have hcz40_2 : w39.cell? ⟨gb164, 2, none⟩ = some (.int .i64 ((rd_T23 y160 x9_1).f2)) := (blk_cell BK164.out 2).trans rfl; have hfz40_0 := blk_frozen BK164.out 0; have hfz40_1 := blk_frozen BK164.out 1; have hfz40_2 := blk_frozen BK164.out 2))
                    go_meet
                    case rel => exact ⟨_, (true), (by first | rfl | (simp; done) | (simp [*]; done)), H', ⟨by have := HK1.out; first | omega | exact Nat.le_refl _⟩, ⟨by (with_reducible repeat (first | apply Kd.R_alloc | apply Kd.R_drewN | apply Kd.R_drew)); exact HO_8.out⟩, ⟨by (with_reducible repeat (first | refine blk_drewN ?_ _ | refine blk_drew ?_ | refine blk_alloc ?_ _)); exact BK164.out⟩, ⟨by repeat (first | (with_reducible first | exact HB.out | apply below_alloc | apply pw_below_drewN | apply below_drew1 | refine below_set ?_ GE164.out) | exact HB.out)⟩⟩
                  · rw [if_neg c37] at H
                    have c37b0 : decide (((rd_T23 y160 x9_1).f2) < 0) = false := decide_eq_false c37
                    clear c37
                    by_cases c41 : (wrap64 (t165 - ((rd_T23 y160 x9_1).f2))) < 0
                    · rw [if_pos c41] at H
                      have c41b0 : decide ((wrap64 (t165 - ((rd_T23 y160 x9_1).f2))) < 0) = true := decide_eq_true c41
                      clear c41
                      have H' := Aside0.mk H
                      clear H
                      have hcz42_0 : w30.cell? ⟨gb164, 0, none⟩ = some (.int .i64 ((rd_T23 y160 x9_1).f0)) := (blk_cell BK164.out 0).trans rfl
                      have hcz42_1 : w30.cell? ⟨gb164, 1, none⟩ = some (.int .i64 ((rd_T23 y160 x9_1).f1)) := (blk_cell BK164.out 1).trans rfl
                      have hcz42_2 : w30.cell? ⟨gb164, 2, none⟩ = some (.int .i64 ((rd_T23 y160 x9_1).f2)) := (blk_cell BK164.out 2).trans rfl
                      have hfz42_0 := blk_frozen BK164.out 0
                      have hfz42_1 := blk_frozen BK164.out 1
                      have hfz42_2 := blk_frozen BK164.out 2
                      go_wp2_with (first | ((with_reducible refine gate_callee (f := 12) rfl ?_); refine goesL_ (some 40) rfl rfl Try.func12 (by kernel_rfl) rfl #[.agg #[.int .i64 ((rd_T23 y160 x9_1).f0), .int .i64 ((rd_T23 y160 x9_1).f1), .int .i64 ((rd_T23 y160 x9_1).f2)]] rfl (by (try simp only [List.map_toArray, List.map_cons, List.map_nil]); first | done | rfl | (simp only [List.length_drop, List.length_take]; rfl)) ?_; (with_reducible refine (quota_Right.calls ((rd_T23 y160 x9_1).f0) ((rd_T23 y160 x9_1).f1) ((rd_T23 y160 x9_1).f2) true _ A31.out).mono ?_); rintro e w43 ⟨rfl, hb⟩; refine ⟨_, rfl, ?_⟩; have n0_ := Aside0.mk (Kd.R_below (by (with_reducible repeat (first | apply Kd.R_alloc | apply Kd.R_drewN | apply Kd.R_drew)); exact HO_8.out) hb); have n1_ := Aside0.mk (blk_below (g := gb164) (o := .cells #[.int .i64 ((rd_T23 y160 x9_1).f0), .int .i64 ((rd_T23 y160 x9_1).f1), .int .i64 ((rd_T23 y160 x9_1).f2)] 23 (0, 0)) (by (with_reducible repeat (first | refine blk_drewN ?_ _ | refine blk_drew ?_ | refine blk_alloc ?_ _)); exact BK164.out) hb); have n2_ := Aside0.mk (below_step (by repeat (first | (with_reducible first | exact HB.out | apply below_alloc | apply pw_below_drewN | apply below_drew1 | refine below_set ?_ GE164.out) | exact HB.out)) hb); clear HO_8; clear BK164; clear HB; have HO_8 := n0_; have BK164 := n1_; have HB := n2_; clear n0_ n1_ n2_; (try clear hb); (try clear hb2); (try clear hk); (try clear hi); have hcz44_0 : w43.cell? ⟨gb164, 0, none⟩ = some (.int .i64 ((rd_T23 y160 x9_1).f0)) := (blk_cell BK164.out 0).trans rfl; have hcz44_1 : w43.cell? ⟨gb164, 1, none⟩ = some (.int .i64 ((rd_T23 y160 x9_1).f1)) := (blk_cell BK164.out 1).trans rfl; have hcz44_2 : w43.cell? ⟨gb164, 2, none⟩ = some (.int .i64 ((rd_T23 y160 x9_1).f2)) := (blk_cell BK164.out 2).trans rfl; have hfz44_0 := blk_frozen BK164.out 0; have hfz44_1 := blk_frozen BK164.out 1; have hfz44_2 := blk_frozen BK164.out 2))
                      go_meet
                      case rel => exact ⟨_, (true), (by first | rfl | (simp; done) | (simp [*]; done)), H', ⟨by have := HK1.out; first | omega | exact Nat.le_refl _⟩, ⟨by (with_reducible repeat (first | apply Kd.R_alloc | apply Kd.R_drewN | apply Kd.R_drew)); exact HO_8.out⟩, ⟨by (with_reducible repeat (first | refine blk_drewN ?_ _ | refine blk_drew ?_ | refine blk_alloc ?_ _)); exact BK164.out⟩, ⟨by repeat (first | (with_reducible first | exact HB.out | apply below_alloc | apply pw_below_drewN | apply below_drew1 | refine below_set ?_ GE164.out) | exact HB.out)⟩⟩
                    · rw [if_neg c41] at H
                      have c41b0 : decide ((wrap64 (t165 - ((rd_T23 y160 x9_1).f2))) < 0) = false := decide_eq_false c41
                      clear c41
                      by_cases c45 : (wrap64 ((wrap64 (((rd_T23 y160 x9_1).f1) + ((rd_T23 y160 x9_1).f2))) + (wrap64 (t165 - ((rd_T23 y160 x9_1).f2))))) = ((rd_T23 y160 x9_1).f0)
                      · rw [if_pos c45] at H
                        have c45b0 : ((wrap64 ((wrap64 (((rd_T23 y160 x9_1).f1) + ((rd_T23 y160 x9_1).f2))) + (wrap64 (t165 - ((rd_T23 y160 x9_1).f2))))) == ((rd_T23 y160 x9_1).f0)) = true := beq_iff_eq.mpr c45
                        have c45b1 : ((wrap64 ((wrap64 (((rd_T23 y160 x9_1).f1) + ((rd_T23 y160 x9_1).f2))) + (wrap64 (t165 - ((rd_T23 y160 x9_1).f2))))) != ((rd_T23 y160 x9_1).f0)) = false := bne_eq_false_iff_eq.mpr c45
                        clear c45
                        by_cases c46 : ((rd_T23 y160 x9_1).f0) < 0
                        · rw [if_pos c46] at H
                          have c46b0 : decide (((rd_T23 y160 x9_1).f0) < 0) = true := decide_eq_true c46
                          clear c46
                          have H' := Aside0.mk H
                          clear H
                          have hcz47_0 : w30.cell? ⟨gb164, 0, none⟩ = some (.int .i64 ((rd_T23 y160 x9_1).f0)) := (blk_cell BK164.out 0).trans rfl
                          have hcz47_1 : w30.cell? ⟨gb164, 1, none⟩ = some (.int .i64 ((rd_T23 y160 x9_1).f1)) := (blk_cell BK164.out 1).trans rfl
                          have hcz47_2 : w30.cell? ⟨gb164, 2, none⟩ = some (.int .i64 ((rd_T23 y160 x9_1).f2)) := (blk_cell BK164.out 2).trans rfl
                          have hfz47_0 := blk_frozen BK164.out 0
                          have hfz47_1 := blk_frozen BK164.out 1
                          have hfz47_2 := blk_frozen BK164.out 2
                          go_wp2_with (first | ((with_reducible refine gate_callee (f := 12) rfl ?_); refine goesL_ (some 40) rfl rfl Try.func12 (by kernel_rfl) rfl #[.agg #[.int .i64 ((rd_T23 y160 x9_1).f0), .int .i64 ((rd_T23 y160 x9_1).f1), .int .i64 ((rd_T23 y160 x9_1).f2)]] rfl (by (try simp only [List.map_toArray, List.map_cons, List.map_nil]); first | done | rfl | (simp only [List.length_drop, List.length_take]; rfl)) ?_; (with_reducible refine (quota_Right.calls ((rd_T23 y160 x9_1).f0) ((rd_T23 y160 x9_1).f1) ((rd_T23 y160 x9_1).f2) true _ A31.out).mono ?_); rintro e w48 ⟨rfl, hb⟩; refine ⟨_, rfl, ?_⟩; have n0_ := Aside0.mk (Kd.R_below (by (with_reducible repeat (first | apply Kd.R_alloc | apply Kd.R_drewN | apply Kd.R_drew)); exact HO_8.out) hb); have n1_ := Aside0.mk (blk_below (g := gb164) (o := .cells #[.int .i64 ((rd_T23 y160 x9_1).f0), .int .i64 ((rd_T23 y160 x9_1).f1), .int .i64 ((rd_T23 y160 x9_1).f2)] 23 (0, 0)) (by (with_reducible repeat (first | refine blk_drewN ?_ _ | refine blk_drew ?_ | refine blk_alloc ?_ _)); exact BK164.out) hb); have n2_ := Aside0.mk (below_step (by repeat (first | (with_reducible first | exact HB.out | apply below_alloc | apply pw_below_drewN | apply below_drew1 | refine below_set ?_ GE164.out) | exact HB.out)) hb); clear HO_8; clear BK164; clear HB; have HO_8 := n0_; have BK164 := n1_; have HB := n2_; clear n0_ n1_ n2_; (try clear hb); (try clear hb2); (try clear hk); (try clear hi); have hcz49_0 : w48.cell? ⟨gb164, 0, none⟩ = some (.int .i64 ((rd_T23 y160 x9_1).f0)) := (blk_cell BK164.out 0).trans rfl; have hcz49_1 : w48.cell? ⟨gb164, 1, none⟩ = some (.int .i64 ((rd_T23 y160 x9_1).f1)) := (blk_cell BK164.out 1).trans rfl; have hcz49_2 : w48.cell? ⟨gb164, 2, none⟩ = some (.int .i64 ((rd_T23 y160 x9_1).f2)) := (blk_cell BK164.out 2).trans rfl; have hfz49_0 := blk_frozen BK164.out 0; have hfz49_1 := blk_frozen BK164.out 1; have hfz49_2 := blk_frozen BK164.out 2))
                          go_meet
                          case rel => exact ⟨_, (true), (by first | rfl | (simp; done) | (simp [*]; done)), H', ⟨by have := HK1.out; first | omega | exact Nat.le_refl _⟩, ⟨by (with_reducible repeat (first | apply Kd.R_alloc | apply Kd.R_drewN | apply Kd.R_drew)); exact HO_8.out⟩, ⟨by (with_reducible repeat (first | refine blk_drewN ?_ _ | refine blk_drew ?_ | refine blk_alloc ?_ _)); exact BK164.out⟩, ⟨by repeat (first | (with_reducible first | exact HB.out | apply below_alloc | apply pw_below_drewN | apply below_drew1 | refine below_set ?_ GE164.out) | exact HB.out)⟩⟩
                        · rw [if_neg c46] at H
                          have c46b0 : decide (((rd_T23 y160 x9_1).f0) < 0) = false := decide_eq_false c46
                          clear c46
                          by_cases c50 : ((rd_T23 y160 x9_1).f0) > 4611686018427387903
                          · rw [if_pos c50] at H
                            have c50b0 : decide (4611686018427387903 < ((rd_T23 y160 x9_1).f0)) = true := decide_eq_true c50
                            clear c50
                            have H' := Aside0.mk H
                            clear H
                            have hcz51_0 : w30.cell? ⟨gb164, 0, none⟩ = some (.int .i64 ((rd_T23 y160 x9_1).f0)) := (blk_cell BK164.out 0).trans rfl
                            have hcz51_1 : w30.cell? ⟨gb164, 1, none⟩ = some (.int .i64 ((rd_T23 y160 x9_1).f1)) := (blk_cell BK164.out 1).trans rfl
                            have hcz51_2 : w30.cell? ⟨gb164, 2, none⟩ = some (.int .i64 ((rd_T23 y160 x9_1).f2)) := (blk_cell BK164.out 2).trans rfl
                            have hfz51_0 := blk_frozen BK164.out 0
                            have hfz51_1 := blk_frozen BK164.out 1
                            have hfz51_2 := blk_frozen BK164.out 2
                            go_wp2_with (first | ((with_reducible refine gate_callee (f := 12) rfl ?_); refine goesL_ (some 40) rfl rfl Try.func12 (by kernel_rfl) rfl #[.agg #[.int .i64 ((rd_T23 y160 x9_1).f0), .int .i64 ((rd_T23 y160 x9_1).f1), .int .i64 ((rd_T23 y160 x9_1).f2)]] rfl (by (try simp only [List.map_toArray, List.map_cons, List.map_nil]); first | done | rfl | (simp only [List.length_drop, List.length_take]; rfl)) ?_; (with_reducible refine (quota_Right.calls ((rd_T23 y160 x9_1).f0) ((rd_T23 y160 x9_1).f1) ((rd_T23 y160 x9_1).f2) true _ A31.out).mono ?_); rintro e w52 ⟨rfl, hb⟩; refine ⟨_, rfl, ?_⟩; have n0_ := Aside0.mk (Kd.R_below (by (with_reducible repeat (first | apply Kd.R_alloc | apply Kd.R_drewN | apply Kd.R_drew)); exact HO_8.out) hb); have n1_ := Aside0.mk (blk_below (g := gb164) (o := .cells #[.int .i64 ((rd_T23 y160 x9_1).f0), .int .i64 ((rd_T23 y160 x9_1).f1), .int .i64 ((rd_T23 y160 x9_1).f2)] 23 (0, 0)) (by (with_reducible repeat (first | refine blk_drewN ?_ _ | refine blk_drew ?_ | refine blk_alloc ?_ _)); exact BK164.out) hb); have n2_ := Aside0.mk (below_step (by repeat (first | (with_reducible first | exact HB.out | apply below_alloc | apply pw_below_drewN | apply below_drew1 | refine below_set ?_ GE164.out) | exact HB.out)) hb); clear HO_8; clear BK164; clear HB; have HO_8 := n0_; have BK164 := n1_; have HB := n2_; clear n0_ n1_ n2_; (try clear hb); (try clear hb2); (try clear hk); (try clear hi); have hcz53_0 : w52.cell? ⟨gb164, 0, none⟩ = some (.int .i64 ((rd_T23 y160 x9_1).f0)) := (blk_cell BK164.out 0).trans rfl; have hcz53_1 : w52.cell? ⟨gb164, 1, none⟩ = some (.int .i64 ((rd_T23 y160 x9_1).f1)) := (blk_cell BK164.out 1).trans rfl; have hcz53_2 : w52.cell? ⟨gb164, 2, none⟩ = some (.int .i64 ((rd_T23 y160 x9_1).f2)) := (blk_cell BK164.out 2).trans rfl; have hfz53_0 := blk_frozen BK164.out 0; have hfz53_1 := blk_frozen BK164.out 1; have hfz53_2 := blk_frozen BK164.out 2))
                            go_meet
                            case rel => exact ⟨_, (true), (by first | rfl | (simp; done) | (simp [*]; done)), H', ⟨by have := HK1.out; first | omega | exact Nat.le_refl _⟩, ⟨by (with_reducible repeat (first | apply Kd.R_alloc | apply Kd.R_drewN | apply Kd.R_drew)); exact HO_8.out⟩, ⟨by (with_reducible repeat (first | refine blk_drewN ?_ _ | refine blk_drew ?_ | refine blk_alloc ?_ _)); exact BK164.out⟩, ⟨by repeat (first | (with_reducible first | exact HB.out | apply below_alloc | apply pw_below_drewN | apply below_drew1 | refine below_set ?_ GE164.out) | exact HB.out)⟩⟩
                          · rw [if_neg c50] at H
                            have c50b0 : decide (4611686018427387903 < ((rd_T23 y160 x9_1).f0)) = false := decide_eq_false c50
                            clear c50
                            by_cases c54 : ((rd_T23 y160 x9_1).f0) > 0
                            · rw [if_pos c54] at H
                              have c54b0 : decide (0 < ((rd_T23 y160 x9_1).f0)) = true := decide_eq_true c54
                              clear c54
                              by_cases c55 : ((rd_T23 y160 x9_1).f1) < 1
                              · rw [if_pos c55] at H
                                have c55b0 : decide (((rd_T23 y160 x9_1).f1) < 1) = true := decide_eq_true c55
                                clear c55
                                have H' := Aside0.mk H
                                clear H
                                have hcz56_0 : w30.cell? ⟨gb164, 0, none⟩ = some (.int .i64 ((rd_T23 y160 x9_1).f0)) := (blk_cell BK164.out 0).trans rfl
                                have hcz56_1 : w30.cell? ⟨gb164, 1, none⟩ = some (.int .i64 ((rd_T23 y160 x9_1).f1)) := (blk_cell BK164.out 1).trans rfl
                                have hcz56_2 : w30.cell? ⟨gb164, 2, none⟩ = some (.int .i64 ((rd_T23 y160 x9_1).f2)) := (blk_cell BK164.out 2).trans rfl
                                have hfz56_0 := blk_frozen BK164.out 0
                                have hfz56_1 := blk_frozen BK164.out 1
                                have hfz56_2 := blk_frozen BK164.out 2
                                go_wp2_with (first | ((with_reducible refine gate_callee (f := 12) rfl ?_); refine goesL_ (some 40) rfl rfl Try.func12 (by kernel_rfl) rfl #[.agg #[.int .i64 ((rd_T23 y160 x9_1).f0), .int .i64 ((rd_T23 y160 x9_1).f1), .int .i64 ((rd_T23 y160 x9_1).f2)]] rfl (by (try simp only [List.map_toArray, List.map_cons, List.map_nil]); first | done | rfl | (simp only [List.length_drop, List.length_take]; rfl)) ?_; (with_reducible refine (quota_Right.calls ((rd_T23 y160 x9_1).f0) ((rd_T23 y160 x9_1).f1) ((rd_T23 y160 x9_1).f2) true _ A31.out).mono ?_); rintro e w57 ⟨rfl, hb⟩; refine ⟨_, rfl, ?_⟩; have n0_ := Aside0.mk (Kd.R_below (by (with_reducible repeat (first | apply Kd.R_alloc | apply Kd.R_drewN | apply Kd.R_drew)); exact HO_8.out) hb); have n1_ := Aside0.mk (blk_below (g := gb164) (o := .cells #[.int .i64 ((rd_T23 y160 x9_1).f0), .int .i64 ((rd_T23 y160 x9_1).f1), .int .i64 ((rd_T23 y160 x9_1).f2)] 23 (0, 0)) (by (with_reducible repeat (first | refine blk_drewN ?_ _ | refine blk_drew ?_ | refine blk_alloc ?_ _)); exact BK164.out) hb); have n2_ := Aside0.mk (below_step (by repeat (first | (with_reducible first | exact HB.out | apply below_alloc | apply pw_below_drewN | apply below_drew1 | refine below_set ?_ GE164.out) | exact HB.out)) hb); clear HO_8; clear BK164; clear HB; have HO_8 := n0_; have BK164 := n1_; have HB := n2_; clear n0_ n1_ n2_; (try clear hb); (try clear hb2); (try clear hk); (try clear hi); have hcz58_0 : w57.cell? ⟨gb164, 0, none⟩ = some (.int .i64 ((rd_T23 y160 x9_1).f0)) := (blk_cell BK164.out 0).trans rfl; have hcz58_1 : w57.cell? ⟨gb164, 1, none⟩ = some (.int .i64 ((rd_T23 y160 x9_1).f1)) := (blk_cell BK164.out 1).trans rfl; have hcz58_2 : w57.cell? ⟨gb164, 2, none⟩ = some (.int .i64 ((rd_T23 y160 x9_1).f2)) := (blk_cell BK164.out 2).trans rfl; have hfz58_0 := blk_frozen BK164.out 0; have hfz58_1 := blk_frozen BK164.out 1; have hfz58_2 := blk_frozen BK164.out 2))
                                go_meet
                                case rel => exact ⟨_, (true), (by first | rfl | (simp; done) | (simp [*]; done)), H', ⟨by have := HK1.out; first | omega | exact Nat.le_refl _⟩, ⟨by (with_reducible repeat (first | apply Kd.R_alloc | apply Kd.R_drewN | apply Kd.R_drew)); exact HO_8.out⟩, ⟨by (with_reducible repeat (first | refine blk_drewN ?_ _ | refine blk_drew ?_ | refine blk_alloc ?_ _)); exact BK164.out⟩, ⟨by repeat (first | (with_reducible first | exact HB.out | apply below_alloc | apply pw_below_drewN | apply below_drew1 | refine below_set ?_ GE164.out) | exact HB.out)⟩⟩
                              · rw [if_neg c55] at H
                                have c55b0 : decide (((rd_T23 y160 x9_1).f1) < 1) = false := decide_eq_false c55
                                clear c55
                                replace H := Option.bind_eq_some_iff.mp H
                                obtain ⟨t167, A590, H⟩ := H
                                replace H : (pantrylaw09_QuotaWhole.j1 k1 a0 t141 y160 x9_1 ((wrap64 (t165 - ((rd_T23 y160 x9_1).f2))) != (wrap64 (Int.tdiv t167 5))) ((rd_T23 y160 x9_1).f0) ((rd_T23 y160 x9_1).f1) ((rd_T23 y160 x9_1).f2)) = some r := H
                                have A59 := Aside0.mk A590
                                clear A590
                                have H' := Aside0.mk H
                                clear H
                                have hcz60_0 : w30.cell? ⟨gb164, 0, none⟩ = some (.int .i64 ((rd_T23 y160 x9_1).f0)) := (blk_cell BK164.out 0).trans rfl
                                have hcz60_1 : w30.cell? ⟨gb164, 1, none⟩ = some (.int .i64 ((rd_T23 y160 x9_1).f1)) := (blk_cell BK164.out 1).trans rfl
                                have hcz60_2 : w30.cell? ⟨gb164, 2, none⟩ = some (.int .i64 ((rd_T23 y160 x9_1).f2)) := (blk_cell BK164.out 2).trans rfl
                                have hfz60_0 := blk_frozen BK164.out 0
                                have hfz60_1 := blk_frozen BK164.out 1
                                have hfz60_2 := blk_frozen BK164.out 2
                                go_wp2_with (first | ((with_reducible refine gate_callee (f := 12) rfl ?_); refine goesL_ (some 40) rfl rfl Try.func12 (by kernel_rfl) rfl #[.agg #[.int .i64 ((rd_T23 y160 x9_1).f0), .int .i64 ((rd_T23 y160 x9_1).f1), .int .i64 ((rd_T23 y160 x9_1).f2)]] rfl (by (try simp only [List.map_toArray, List.map_cons, List.map_nil]); first | done | rfl | (simp only [List.length_drop, List.length_take]; rfl)) ?_; (with_reducible refine (quota_Right.calls ((rd_T23 y160 x9_1).f0) ((rd_T23 y160 x9_1).f1) ((rd_T23 y160 x9_1).f2) true _ A31.out).mono ?_); rintro e w61 ⟨rfl, hb⟩; refine ⟨_, rfl, ?_⟩; have n0_ := Aside0.mk (Kd.R_below (by (with_reducible repeat (first | apply Kd.R_alloc | apply Kd.R_drewN | apply Kd.R_drew)); exact HO_8.out) hb); have n1_ := Aside0.mk (blk_below (g := gb164) (o := .cells #[.int .i64 ((rd_T23 y160 x9_1).f0), .int .i64 ((rd_T23 y160 x9_1).f1), .int .i64 ((rd_T23 y160 x9_1).f2)] 23 (0, 0)) (by (with_reducible repeat (first | refine blk_drewN ?_ _ | refine blk_drew ?_ | refine blk_alloc ?_ _)); exact BK164.out) hb); have n2_ := Aside0.mk (below_step (by repeat (first | (with_reducible first | exact HB.out | apply below_alloc | apply pw_below_drewN | apply below_drew1 | refine below_set ?_ GE164.out) | exact HB.out)) hb); clear HO_8; clear BK164; clear HB; have HO_8 := n0_; have BK164 := n1_; have HB := n2_; clear n0_ n1_ n2_; (try clear hb); (try clear hb2); (try clear hk); (try clear hi); have hcz62_0 : w61.cell? ⟨gb164, 0, none⟩ = some (.int .i64 ((rd_T23 y160 x9_1).f0)) := (blk_cell BK164.out 0).trans rfl; have hcz62_1 : w61.cell? ⟨gb164, 1, none⟩ = some (.int .i64 ((rd_T23 y160 x9_1).f1)) := (blk_cell BK164.out 1).trans rfl; have hcz62_2 : w61.cell? ⟨gb164, 2, none⟩ = some (.int .i64 ((rd_T23 y160 x9_1).f2)) := (blk_cell BK164.out 2).trans rfl; have hfz62_0 := blk_frozen BK164.out 0; have hfz62_1 := blk_frozen BK164.out 1; have hfz62_2 := blk_frozen BK164.out 2) | (go_at_call 13; (with_reducible refine (quota_Main.calls ((rd_T23 y160 x9_1).f0) ((rd_T23 y160 x9_1).f1) ((rd_T23 y160 x9_1).f2) t167 _ A59.out).mono ?_); rintro e w63 ⟨rfl, hb⟩; have n0_ := Aside0.mk (Kd.R_below (by (with_reducible repeat (first | apply Kd.R_alloc | apply Kd.R_drewN | apply Kd.R_drew)); exact HO_8.out) hb); have n1_ := Aside0.mk (blk_below (g := gb164) (o := .cells #[.int .i64 ((rd_T23 y160 x9_1).f0), .int .i64 ((rd_T23 y160 x9_1).f1), .int .i64 ((rd_T23 y160 x9_1).f2)] 23 (0, 0)) (by (with_reducible repeat (first | refine blk_drewN ?_ _ | refine blk_drew ?_ | refine blk_alloc ?_ _)); exact BK164.out) hb); have n2_ := Aside0.mk (below_step (by repeat (first | (with_reducible first | exact HB.out | apply below_alloc | apply pw_below_drewN | apply below_drew1 | refine below_set ?_ GE164.out) | exact HB.out)) hb); clear HO_8; clear BK164; clear HB; have HO_8 := n0_; have BK164 := n1_; have HB := n2_; clear n0_ n1_ n2_; (try clear hb); (try clear hb2); (try clear hk); (try clear hi)))
                                go_meet
                                case rel => exact ⟨_, (((wrap64 (t165 - ((rd_T23 y160 x9_1).f2))) != (wrap64 (Int.tdiv t167 5)))), (by first | rfl | (simp; done) | (simp [*]; done)), H', ⟨by have := HK1.out; first | omega | exact Nat.le_refl _⟩, ⟨by (with_reducible repeat (first | apply Kd.R_alloc | apply Kd.R_drewN | apply Kd.R_drew)); exact HO_8.out⟩, ⟨by (with_reducible repeat (first | refine blk_drewN ?_ _ | refine blk_drew ?_ | refine blk_alloc ?_ _)); exact BK164.out⟩, ⟨by repeat (first | (with_reducible first | exact HB.out | apply below_alloc | apply pw_below_drewN | apply below_drew1 | refine below_set ?_ GE164.out) | exact HB.out)⟩⟩
                            · rw [if_neg c54] at H
                              have c54b0 : decide (0 < ((rd_T23 y160 x9_1).f0)) = false := decide_eq_false c54
                              clear c54
                              replace H := Option.bind_eq_some_iff.mp H
                              obtain ⟨t168, A640, H⟩ := H
                              replace H : (pantrylaw09_QuotaWhole.j1 k1 a0 t141 y160 x9_1 ((wrap64 (t165 - ((rd_T23 y160 x9_1).f2))) != (wrap64 (Int.tdiv t168 5))) ((rd_T23 y160 x9_1).f0) ((rd_T23 y160 x9_1).f1) ((rd_T23 y160 x9_1).f2)) = some r := H
                              have A64 := Aside0.mk A640
                              clear A640
                              have H' := Aside0.mk H
                              clear H
                              have hcz65_0 : w30.cell? ⟨gb164, 0, none⟩ = some (.int .i64 ((rd_T23 y160 x9_1).f0)) := (blk_cell BK164.out 0).trans rfl
                              have hcz65_1 : w30.cell? ⟨gb164, 1, none⟩ = some (.int .i64 ((rd_T23 y160 x9_1).f1)) := (blk_cell BK164.out 1).trans rfl
                              have hcz65_2 : w30.cell? ⟨gb164, 2, none⟩ = some (.int .i64 ((rd_T23 y160 x9_1).f2)) := (blk_cell BK164.out 2).trans rfl
                              have hfz65_0 := blk_frozen BK164.out 0
                              have hfz65_1 := blk_frozen BK164.out 1
                              have hfz65_2 := blk_frozen BK164.out 2
                              go_wp2_with (first | ((with_reducible refine gate_callee (f := 12) rfl ?_); refine goesL_ (some 40) rfl rfl Try.func12 (by kernel_rfl) rfl #[.agg #[.int .i64 ((rd_T23 y160 x9_1).f0), .int .i64 ((rd_T23 y160 x9_1).f1), .int .i64 ((rd_T23 y160 x9_1).f2)]] rfl (by (try simp only [List.map_toArray, List.map_cons, List.map_nil]); first | done | rfl | (simp only [List.length_drop, List.length_take]; rfl)) ?_; (with_reducible refine (quota_Right.calls ((rd_T23 y160 x9_1).f0) ((rd_T23 y160 x9_1).f1) ((rd_T23 y160 x9_1).f2) true _ A31.out).mono ?_); rintro e w66 ⟨rfl, hb⟩; refine ⟨_, rfl, ?_⟩; have n0_ := Aside0.mk (Kd.R_below (by (with_reducible repeat (first | apply Kd.R_alloc | apply Kd.R_drewN | apply Kd.R_drew)); exact HO_8.out) hb); have n1_ := Aside0.mk (blk_below (g := gb164) (o := .cells #[.int .i64 ((rd_T23 y160 x9_1).f0), .int .i64 ((rd_T23 y160 x9_1).f1), .int .i64 ((rd_T23 y160 x9_1).f2)] 23 (0, 0)) (by (with_reducible repeat (first | refine blk_drewN ?_ _ | refine blk_drew ?_ | refine blk_alloc ?_ _)); exact BK164.out) hb); have n2_ := Aside0.mk (below_step (by repeat (first | (with_reducible first | exact HB.out | apply below_alloc | apply pw_below_drewN | apply below_drew1 | refine below_set ?_ GE164.out) | exact HB.out)) hb); clear HO_8; clear BK164; clear HB; have HO_8 := n0_; have BK164 := n1_; have HB := n2_; clear n0_ n1_ n2_; (try clear hb); (try clear hb2); (try clear hk); (try clear hi); have hcz67_0 : w66.cell? ⟨gb164, 0, none⟩ = some (.int .i64 ((rd_T23 y160 x9_1).f0)) := (blk_cell BK164.out 0).trans rfl; have hcz67_1 : w66.cell? ⟨gb164, 1, none⟩ = some (.int .i64 ((rd_T23 y160 x9_1).f1)) := (blk_cell BK164.out 1).trans rfl; have hcz67_2 : w66.cell? ⟨gb164, 2, none⟩ = some (.int .i64 ((rd_T23 y160 x9_1).f2)) := (blk_cell BK164.out 2).trans rfl; have hfz67_0 := blk_frozen BK164.out 0; have hfz67_1 := blk_frozen BK164.out 1; have hfz67_2 := blk_frozen BK164.out 2) | (go_at_call 13; (with_reducible refine (quota_Main.calls ((rd_T23 y160 x9_1).f0) ((rd_T23 y160 x9_1).f1) ((rd_T23 y160 x9_1).f2) t168 _ A64.out).mono ?_); rintro e w68 ⟨rfl, hb⟩; have n0_ := Aside0.mk (Kd.R_below (by (with_reducible repeat (first | apply Kd.R_alloc | apply Kd.R_drewN | apply Kd.R_drew)); exact HO_8.out) hb); have n1_ := Aside0.mk (blk_below (g := gb164) (o := .cells #[.int .i64 ((rd_T23 y160 x9_1).f0), .int .i64 ((rd_T23 y160 x9_1).f1), .int .i64 ((rd_T23 y160 x9_1).f2)] 23 (0, 0)) (by (with_reducible repeat (first | refine blk_drewN ?_ _ | refine blk_drew ?_ | refine blk_alloc ?_ _)); exact BK164.out) hb); have n2_ := Aside0.mk (below_step (by repeat (first | (with_reducible first | exact HB.out | apply below_alloc | apply pw_below_drewN | apply below_drew1 | refine below_set ?_ GE164.out) | exact HB.out)) hb); clear HO_8; clear BK164; clear HB; have HO_8 := n0_; have BK164 := n1_; have HB := n2_; clear n0_ n1_ n2_; (try clear hb); (try clear hb2); (try clear hk); (try clear hi)))
                              go_meet
                              case rel => exact ⟨_, (((wrap64 (t165 - ((rd_T23 y160 x9_1).f2))) != (wrap64 (Int.tdiv t168 5)))), (by first | rfl | (simp; done) | (simp [*]; done)), H', ⟨by have := HK1.out; first | omega | exact Nat.le_refl _⟩, ⟨by (with_reducible repeat (first | apply Kd.R_alloc | apply Kd.R_drewN | apply Kd.R_drew)); exact HO_8.out⟩, ⟨by (with_reducible repeat (first | refine blk_drewN ?_ _ | refine blk_drew ?_ | refine blk_alloc ?_ _)); exact BK164.out⟩, ⟨by repeat (first | (with_reducible first | exact HB.out | apply below_alloc | apply pw_below_drewN | apply below_drew1 | refine below_set ?_ GE164.out) | exact HB.out)⟩⟩
                      · rw [if_neg c45] at H
                        have c45b0 : ((wrap64 ((wrap64 (((rd_T23 y160 x9_1).f1) + ((rd_T23 y160 x9_1).f2))) + (wrap64 (t165 - ((rd_T23 y160 x9_1).f2))))) == ((rd_T23 y160 x9_1).f0)) = false := beq_eq_false_iff_ne.mpr c45
                        have c45b1 : ((wrap64 ((wrap64 (((rd_T23 y160 x9_1).f1) + ((rd_T23 y160 x9_1).f2))) + (wrap64 (t165 - ((rd_T23 y160 x9_1).f2))))) != ((rd_T23 y160 x9_1).f0)) = true := bne_iff_ne.mpr c45
                        have H' := Aside0.mk H
                        clear H
                        have hcz69_0 : w30.cell? ⟨gb164, 0, none⟩ = some (.int .i64 ((rd_T23 y160 x9_1).f0)) := (blk_cell BK164.out 0).trans rfl
                        have hcz69_1 : w30.cell? ⟨gb164, 1, none⟩ = some (.int .i64 ((rd_T23 y160 x9_1).f1)) := (blk_cell BK164.out 1).trans rfl
                        have hcz69_2 : w30.cell? ⟨gb164, 2, none⟩ = some (.int .i64 ((rd_T23 y160 x9_1).f2)) := (blk_cell BK164.out 2).trans rfl
                        have hfz69_0 := blk_frozen BK164.out 0
                        have hfz69_1 := blk_frozen BK164.out 1
                        have hfz69_2 := blk_frozen BK164.out 2
                        go_wp2_with (first | ((with_reducible refine gate_callee (f := 12) rfl ?_); refine goesL_ (some 40) rfl rfl Try.func12 (by kernel_rfl) rfl #[.agg #[.int .i64 ((rd_T23 y160 x9_1).f0), .int .i64 ((rd_T23 y160 x9_1).f1), .int .i64 ((rd_T23 y160 x9_1).f2)]] rfl (by (try simp only [List.map_toArray, List.map_cons, List.map_nil]); first | done | rfl | (simp only [List.length_drop, List.length_take]; rfl)) ?_; (with_reducible refine (quota_Right.calls ((rd_T23 y160 x9_1).f0) ((rd_T23 y160 x9_1).f1) ((rd_T23 y160 x9_1).f2) true _ A31.out).mono ?_); rintro e w70 ⟨rfl, hb⟩; refine ⟨_, rfl, ?_⟩; have n0_ := Aside0.mk (Kd.R_below (by (with_reducible repeat (first | apply Kd.R_alloc | apply Kd.R_drewN | apply Kd.R_drew)); exact HO_8.out) hb); have n1_ := Aside0.mk (blk_below (g := gb164) (o := .cells #[.int .i64 ((rd_T23 y160 x9_1).f0), .int .i64 ((rd_T23 y160 x9_1).f1), .int .i64 ((rd_T23 y160 x9_1).f2)] 23 (0, 0)) (by (with_reducible repeat (first | refine blk_drewN ?_ _ | refine blk_drew ?_ | refine blk_alloc ?_ _)); exact BK164.out) hb); have n2_ := Aside0.mk (below_step (by repeat (first | (with_reducible first | exact HB.out | apply below_alloc | apply pw_below_drewN | apply below_drew1 | refine below_set ?_ GE164.out) | exact HB.out)) hb); clear HO_8; clear BK164; clear HB; have HO_8 := n0_; have BK164 := n1_; have HB := n2_; clear n0_ n1_ n2_; (try clear hb); (try clear hb2); (try clear hk); (try clear hi); have hcz71_0 : w70.cell? ⟨gb164, 0, none⟩ = some (.int .i64 ((rd_T23 y160 x9_1).f0)) := (blk_cell BK164.out 0).trans rfl; have hcz71_1 : w70.cell? ⟨gb164, 1, none⟩ = some (.int .i64 ((rd_T23 y160 x9_1).f1)) := (blk_cell BK164.out 1).trans rfl; have hcz71_2 : w70.cell? ⟨gb164, 2, none⟩ = some (.int .i64 ((rd_T23 y160 x9_1).f2)) := (blk_cell BK164.out 2).trans rfl; have hfz71_0 := blk_frozen BK164.out 0; have hfz71_1 := blk_frozen BK164.out 1; have hfz71_2 := blk_frozen BK164.out 2))
                        go_meet
                        case rel => exact ⟨_, (true), (by first | rfl | (simp; done) | (simp [*]; done)), H', ⟨by have := HK1.out; first | omega | exact Nat.le_refl _⟩, ⟨by (with_reducible repeat (first | apply Kd.R_alloc | apply Kd.R_drewN | apply Kd.R_drew)); exact HO_8.out⟩, ⟨by (with_reducible repeat (first | refine blk_drewN ?_ _ | refine blk_drew ?_ | refine blk_alloc ?_ _)); exact BK164.out⟩, ⟨by repeat (first | (with_reducible first | exact HB.out | apply below_alloc | apply pw_below_drewN | apply below_drew1 | refine below_set ?_ GE164.out) | exact HB.out)⟩⟩
              · replace c32 := Bool.eq_false_iff.mpr c32
                subst c32
                have H1 : (pantrylaw09_QuotaWhole.j1 k1 a0 t141 y160 x9_1 true ((rd_T23 y160 x9_1).f0) ((rd_T23 y160 x9_1).f1) ((rd_T23 y160 x9_1).f2)) = some r := by rw [if_neg (show ¬ (false = true) by decide)] at H; exact H
                clear H
                have H := H1
                clear H1
                have H' := Aside0.mk H
                clear H
                have hcz72_0 : w30.cell? ⟨gb164, 0, none⟩ = some (.int .i64 ((rd_T23 y160 x9_1).f0)) := (blk_cell BK164.out 0).trans rfl
                have hcz72_1 : w30.cell? ⟨gb164, 1, none⟩ = some (.int .i64 ((rd_T23 y160 x9_1).f1)) := (blk_cell BK164.out 1).trans rfl
                have hcz72_2 : w30.cell? ⟨gb164, 2, none⟩ = some (.int .i64 ((rd_T23 y160 x9_1).f2)) := (blk_cell BK164.out 2).trans rfl
                have hfz72_0 := blk_frozen BK164.out 0
                have hfz72_1 := blk_frozen BK164.out 1
                have hfz72_2 := blk_frozen BK164.out 2
                go_wp2_with (first | ((with_reducible refine gate_callee (f := 12) rfl ?_); refine goesL_ (some 40) rfl rfl Try.func12 (by kernel_rfl) rfl #[.agg #[.int .i64 ((rd_T23 y160 x9_1).f0), .int .i64 ((rd_T23 y160 x9_1).f1), .int .i64 ((rd_T23 y160 x9_1).f2)]] rfl (by (try simp only [List.map_toArray, List.map_cons, List.map_nil]); first | done | rfl | (simp only [List.length_drop, List.length_take]; rfl)) ?_; (with_reducible refine (quota_Right.calls ((rd_T23 y160 x9_1).f0) ((rd_T23 y160 x9_1).f1) ((rd_T23 y160 x9_1).f2) false _ A31.out).mono ?_); rintro e w73 ⟨rfl, hb⟩; refine ⟨_, rfl, ?_⟩; have n0_ := Aside0.mk (Kd.R_below (by (with_reducible repeat (first | apply Kd.R_alloc | apply Kd.R_drewN | apply Kd.R_drew)); exact HO_8.out) hb); have n1_ := Aside0.mk (blk_below (g := gb164) (o := .cells #[.int .i64 ((rd_T23 y160 x9_1).f0), .int .i64 ((rd_T23 y160 x9_1).f1), .int .i64 ((rd_T23 y160 x9_1).f2)] 23 (0, 0)) (by (with_reducible repeat (first | refine blk_drewN ?_ _ | refine blk_drew ?_ | refine blk_alloc ?_ _)); exact BK164.out) hb); have n2_ := Aside0.mk (below_step (by repeat (first | (with_reducible first | exact HB.out | apply below_alloc | apply pw_below_drewN | apply below_drew1 | refine below_set ?_ GE164.out) | exact HB.out)) hb); clear HO_8; clear BK164; clear HB; have HO_8 := n0_; have BK164 := n1_; have HB := n2_; clear n0_ n1_ n2_; (try clear hb); (try clear hb2); (try clear hk); (try clear hi)))
                go_meet
                case rel => exact ⟨_, (true), (by first | rfl | (simp; done) | (simp [*]; done)), H', ⟨by have := HK1.out; first | omega | exact Nat.le_refl _⟩, ⟨by (with_reducible repeat (first | apply Kd.R_alloc | apply Kd.R_drewN | apply Kd.R_drew)); exact HO_8.out⟩, ⟨by (with_reducible repeat (first | refine blk_drewN ?_ _ | refine blk_drew ?_ | refine blk_alloc ?_ _)); exact BK164.out⟩, ⟨by repeat (first | (with_reducible first | exact HB.out | apply below_alloc | apply pw_below_drewN | apply below_drew1 | refine below_set ?_ GE164.out) | exact HB.out)⟩⟩
            case rest =>
              clear HC24
              try clear c1
              try clear p1
              try clear q1
              try clear hx1
              try clear c2
              try clear p2
              try clear c3
              try clear c4
              try clear c5
              try clear p6
              try clear c7
              try clear c9
              try clear c11
              try clear c12
              try clear c13
              try clear p16
              try clear q16
              try clear hx16
              try clear c20
              try clear c20b0
              try clear c21
              try clear c21b0
              try clear c22
              try clear c22b0
              try clear c32
              try clear c33
              try clear c33b0
              try clear c37
              try clear c37b0
              try clear c41
              try clear c41b0
              try clear c45
              try clear c45b0
              try clear c45b1
              try clear c46
              try clear c46b0
              try clear c50
              try clear c50b0
              try clear c54
              try clear c54b0
              try clear c55
              try clear c55b0
              try clear p64
              try clear hcz27_0
              try clear hcz27_1
              try clear hcz27_2
              try clear hcz34_0
              try clear hcz34_1
              try clear hcz34_2
              try clear hcz36_0
              try clear hcz36_1
              try clear hcz36_2
              try clear hcz38_0
              try clear hcz38_1
              try clear hcz38_2
              try clear hcz40_0
              try clear hcz40_1
              try clear hcz40_2
              try clear hcz42_0
              try clear hcz42_1
              try clear hcz42_2
              try clear hcz44_0
              try clear hcz44_1
              try clear hcz44_2
              try clear hcz47_0
              try clear hcz47_1
              try clear hcz47_2
              try clear hcz49_0
              try clear hcz49_1
              try clear hcz49_2
              try clear hcz51_0
              try clear hcz51_1
              try clear hcz51_2
              try clear hcz53_0
              try clear hcz53_1
              try clear hcz53_2
              try clear hcz56_0
              try clear hcz56_1
              try clear hcz56_2
              try clear hcz58_0
              try clear hcz58_1
              try clear hcz58_2
              try clear hcz60_0
              try clear hcz60_1
              try clear hcz60_2
              try clear hcz62_0
              try clear hcz62_1
              try clear hcz62_2
              try clear hcz65_0
              try clear hcz65_1
              try clear hcz65_2
              try clear hcz67_0
              try clear hcz67_1
              try clear hcz67_2
              try clear hcz69_0
              try clear hcz69_1
              try clear hcz69_2
              try clear hcz71_0
              try clear hcz71_1
              try clear hcz71_2
              try clear hcz72_0
              try clear hcz72_1
              try clear hcz72_2
              try clear hfz27_0
              try clear hfz27_1
              try clear hfz27_2
              try clear hfz34_0
              try clear hfz34_1
              try clear hfz34_2
              try clear hfz36_0
              try clear hfz36_1
              try clear hfz36_2
              try clear hfz38_0
              try clear hfz38_1
              try clear hfz38_2
              try clear hfz40_0
              try clear hfz40_1
              try clear hfz40_2
              try clear hfz42_0
              try clear hfz42_1
              try clear hfz42_2
              try clear hfz44_0
              try clear hfz44_1
              try clear hfz44_2
              try clear hfz47_0
              try clear hfz47_1
              try clear hfz47_2
              try clear hfz49_0
              try clear hfz49_1
              try clear hfz49_2
              try clear hfz51_0
              try clear hfz51_1
              try clear hfz51_2
              try clear hfz53_0
              try clear hfz53_1
              try clear hfz53_2
              try clear hfz56_0
              try clear hfz56_1
              try clear hfz56_2
              try clear hfz58_0
              try clear hfz58_1
              try clear hfz58_2
              try clear hfz60_0
              try clear hfz60_1
              try clear hfz60_2
              try clear hfz62_0
              try clear hfz62_1
              try clear hfz62_2
              try clear hfz65_0
              try clear hfz65_1
              try clear hfz65_2
              try clear hfz67_0
              try clear hfz67_1
              try clear hfz67_2
              try clear hfz69_0
              try clear hfz69_1
              try clear hfz69_2
              try clear hfz71_0
              try clear hfz71_1
              try clear hfz71_2
              try clear hfz72_0
              try clear hfz72_1
              try clear hfz72_2
              try clear hx163_0
              try clear hx163_1
              try clear hx163_2
              try clear p163
              try clear p2
              try clear q163
              obtain ⟨kq, x94_23, rfl, HA, HJ23, HO_8, BK164, HB⟩ := hcut
              cases kq with
              | zero => exact absurd HA.out (by simp [pantrylaw09_QuotaWhole.j1])
              | succ kj23 =>
                have H := HA.out
                clear HA
                simp only [pantrylaw09_QuotaWhole.j1] at H
                by_cases c74 : x94_23 = true
                · subst c74
                  have H1 : (some false) = some r := by rw [if_pos rfl] at H; exact H
                  clear H
                  have H := H1
                  clear H1
                  obtain rfl := Option.some.inj H
                  go_wp2
                  go_ret
                  exact ⟨by first | rfl | (simp [errW_none, errW_some] <;> rfl) | (simp [*, errW_none, errW_some] <;> rfl), by repeat (first | (with_reducible first | exact HB.out | apply below_alloc | apply pw_below_drewN | apply below_drew1 | refine below_set ?_ GE164.out) | exact HB.out)⟩
                · replace c74 := Bool.eq_false_iff.mpr c74
                  subst c74
                  have H1 : (if a0 ≥ 0 then (if a0 ≤ 4611686018427387903 then (if ((rd_T23 y160 x9_1).f0) = a0 then (pantrylaw09_QuotaWhole.l0 kj23 a0 t141 y160 (wrap64 (x9_1 + 1))) else (some false)) else (pantrylaw09_QuotaWhole.l0 kj23 a0 t141 y160 (wrap64 (x9_1 + 1)))) else (pantrylaw09_QuotaWhole.l0 kj23 a0 t141 y160 (wrap64 (x9_1 + 1)))) = some r := by rw [if_neg (show ¬ (false = true) by decide)] at H; exact H
                  clear H
                  have H := H1
                  clear H1
                  by_cases c75 : a0 ≥ 0
                  · rw [if_pos c75] at H
                    have c75b0 : decide (0 ≤ a0) = true := decide_eq_true c75
                    clear c75
                    by_cases c76 : a0 ≤ 4611686018427387903
                    · rw [if_pos c76] at H
                      have c76b0 : decide (a0 ≤ 4611686018427387903) = true := decide_eq_true c76
                      clear c76
                      by_cases c77 : ((rd_T23 y160 x9_1).f0) = a0
                      · rw [if_pos c77] at H
                        have c77b0 : (((rd_T23 y160 x9_1).f0) == a0) = true := beq_iff_eq.mpr c77
                        have c77b1 : (((rd_T23 y160 x9_1).f0) != a0) = false := bne_eq_false_iff_eq.mpr c77
                        clear c77
                        have H' := Aside0.mk H
                        clear H
                        have hcz78_0 : wc.cell? ⟨gb164, 0, none⟩ = some (.int .i64 ((rd_T23 y160 x9_1).f0)) := (blk_cell BK164.out 0).trans rfl
                        have hcz78_1 : wc.cell? ⟨gb164, 1, none⟩ = some (.int .i64 ((rd_T23 y160 x9_1).f1)) := (blk_cell BK164.out 1).trans rfl
                        have hcz78_2 : wc.cell? ⟨gb164, 2, none⟩ = some (.int .i64 ((rd_T23 y160 x9_1).f2)) := (blk_cell BK164.out 2).trans rfl
                        have hfz78_0 := blk_frozen BK164.out 0
                        have hfz78_1 := blk_frozen BK164.out 1
                        have hfz78_2 := blk_frozen BK164.out 2
                        go_wp2
                        go_roundg kj23
                        case measure => have := HK1.out; have := HJ23.out; omega
                        case rel => exact ⟨(wrap64 (x9_1 + 1)), (by first | rfl | (simp; done) | (simp [*]; done)), H', ⟨by have := HK1.out; have := HJ23.out; omega⟩, ⟨by (with_reducible repeat (first | apply Kd.R_alloc | apply Kd.R_drewN | apply Kd.R_drew)); exact Kd.R_mono HO_8.out (fun _ hk => trivial)⟩, ⟨by repeat (first | (with_reducible first | exact HB.out | apply below_alloc | apply pw_below_drewN | apply below_drew1 | refine below_set ?_ GE164.out) | exact HB.out)⟩⟩
                      · rw [if_neg c77] at H
                        have c77b0 : (((rd_T23 y160 x9_1).f0) == a0) = false := beq_eq_false_iff_ne.mpr c77
                        have c77b1 : (((rd_T23 y160 x9_1).f0) != a0) = true := bne_iff_ne.mpr c77
                        obtain rfl := Option.some.inj H
                        have hcz79_0 : wc.cell? ⟨gb164, 0, none⟩ = some (.int .i64 ((rd_T23 y160 x9_1).f0)) := (blk_cell BK164.out 0).trans rfl
                        have hcz79_1 : wc.cell? ⟨gb164, 1, none⟩ = some (.int .i64 ((rd_T23 y160 x9_1).f1)) := (blk_cell BK164.out 1).trans rfl
                        have hcz79_2 : wc.cell? ⟨gb164, 2, none⟩ = some (.int .i64 ((rd_T23 y160 x9_1).f2)) := (blk_cell BK164.out 2).trans rfl
                        have hfz79_0 := blk_frozen BK164.out 0
                        have hfz79_1 := blk_frozen BK164.out 1
                        have hfz79_2 := blk_frozen BK164.out 2
                        go_wp2
                        go_ret
                        exact ⟨by first | rfl | (simp [errW_none, errW_some] <;> rfl) | (simp [*, errW_none, errW_some] <;> rfl), by repeat (first | (with_reducible first | exact HB.out | apply below_alloc | apply pw_below_drewN | apply below_drew1 | refine below_set ?_ GE164.out) | exact HB.out)⟩
                    · rw [if_neg c76] at H
                      have c76b0 : decide (a0 ≤ 4611686018427387903) = false := decide_eq_false c76
                      clear c76
                      have H' := Aside0.mk H
                      clear H
                      go_wp2
                      go_roundg kj23
                      case measure => have := HK1.out; have := HJ23.out; omega
                      case rel => exact ⟨(wrap64 (x9_1 + 1)), (by first | rfl | (simp; done) | (simp [*]; done)), H', ⟨by have := HK1.out; have := HJ23.out; omega⟩, ⟨by (with_reducible repeat (first | apply Kd.R_alloc | apply Kd.R_drewN | apply Kd.R_drew)); exact Kd.R_mono HO_8.out (fun _ hk => trivial)⟩, ⟨by repeat (first | (with_reducible first | exact HB.out | apply below_alloc | apply pw_below_drewN | apply below_drew1 | refine below_set ?_ GE164.out) | exact HB.out)⟩⟩
                  · rw [if_neg c75] at H
                    have c75b0 : decide (0 ≤ a0) = false := decide_eq_false c75
                    clear c75
                    have H' := Aside0.mk H
                    clear H
                    go_wp2
                    go_roundg kj23
                    case measure => have := HK1.out; have := HJ23.out; omega
                    case rel => exact ⟨(wrap64 (x9_1 + 1)), (by first | rfl | (simp; done) | (simp [*]; done)), H', ⟨by have := HK1.out; have := HJ23.out; omega⟩, ⟨by (with_reducible repeat (first | apply Kd.R_alloc | apply Kd.R_drewN | apply Kd.R_drew)); exact Kd.R_mono HO_8.out (fun _ hk => trivial)⟩, ⟨by repeat (first | (with_reducible first | exact HB.out | apply below_alloc | apply pw_below_drewN | apply below_drew1 | refine below_set ?_ GE164.out) | exact HB.out)⟩⟩
          · rw [if_neg c22] at H
            exact absurd H (by simp)
        · rw [if_neg c21] at H
          exact absurd H (by simp)
      · rw [if_neg c20] at H
        have c20b0 : decide (x9_1 < 3) = false := decide_eq_false c20
        clear c20
        obtain rfl := Option.some.inj H
        go_wp2
        go_ret
        exact ⟨by first | rfl | (simp [errW_none, errW_some] <;> rfl) | (simp [*, errW_none, errW_some] <;> rfl), by repeat (first | (with_reducible first | exact HB.out | apply below_alloc | apply pw_below_drewN | apply below_drew1) | exact HB.out)⟩

/-- THE ONE PURE STATEMENT of pantrylaw09_QuotaWhole: yours. -/
def pantrylaw09_QuotaWhole.Pure : Prop := ∀ (a0 : Int) (a1 : Int) (a2 : Int), (Lit.int .i64 a0).wf = true → (Lit.int .i64 a1).wf = true → (Lit.int .i64 a2).wf = true → ∃ k, pantrylaw09_QuotaWhole.f k a0 a1 a2 = some true
theorem pantrylaw09_QuotaWhole.walk (P : pantrylaw09_QuotaWhole.Pure) (a0 : Int) (a1 : Int) (a2 : Int) (w : World) (w0 : (Lit.int .i64 a0).wf = true) (w1 : (Lit.int .i64 a1).wf = true) (w2 : (Lit.int .i64 a2).wf = true) :
    Calls Try.prog 4 #[.int .i64 a0, .int .i64 a1, .int .i64 a2] w fun e w' => e = .returned (.bool true) ∧ Below w.heap.size w w' := by
  obtain ⟨k, h⟩ := P a0 a1 a2 w0 w1 w2
  refine (pantrylaw09_QuotaWhole.calls k a0 a1 a2 true w h).mono ?_
  rintro e w' ⟨rfl, hd⟩
  exact ⟨rfl, hd⟩

end Go.Proofs.Ytdkkhhlkgjnicaa.PQuotaWhole
