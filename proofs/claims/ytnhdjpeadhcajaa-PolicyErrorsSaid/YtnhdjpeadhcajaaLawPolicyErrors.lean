/- The statement PolicyErrors: its row, out of the walk of the law (the frame is the guide's own proof-skeleton). -/
import Derived.Test.YtnhdjpeadhcajaaRows
import Derived.Test.YtnhdjpeadhcajaaPolErrm
import Derived.WalkKit
import Derived.ProofKit
import Derived.OpenShut
import Derived.ShutString
import Derived.Lib.SmallJoins
import Derived.Deep.Grids
import Derived.Carry
namespace Go.Proofs.Ytnhdjpeadhcajaa.policyErrors
open Go.ChangeShapes Go.WideShapes Go.ChangeAt Go.RowKit Go.Deep
open Go.ChangeMaps (open_string shut_string)
set_option linter.unusedVariables false

theorem own : ownKnob Try.prog.godebug = none := by kernel_rfl
theorem laidOut : laidOutB Try.prog = true := by kernel_rfl

def IsRow (k : IntKind) (w : World) (a : Option Addr) (len cap : Nat) (zs : List Int) : Prop :=
  (a = none ∧ len = 0 ∧ cap = 0 ∧ zs = []) ∨
  ∃ x, a = some x ∧ len ≤ cap ∧ cap ≤ maxLen ∧ zs.length = cap ∧ (∀ i, i < zs.length → w.cell? (x.add i) = some (.int k (zs.getD i 0))) ∧ ∀ n ∈ zs, (Lit.int k n).wf = true

theorem walk (w : World) (a0 : Int) (w0 : (Lit.int .i64 a0).wf = true) (a1 : Int) (w1 : (Lit.int .i64 a1).wf = true) (A2 : Option Addr) (len2 cap2 : Nat) (z2 : Nat → Nat → Int) (r2 : ReadsR 4 w (.slice A2 len2 cap2) len2 z2) (x3_0 : Int) (x3_1 : Int) (x3_2 : Int) (x3_3 : Int) (w3_0 : (Lit.int .i64 x3_0).wf = true) (w3_1 : (Lit.int .i64 x3_1).wf = true) (w3_2 : (Lit.int .i64 x3_2).wf = true) (w3_3 : (Lit.int .i64 x3_3).wf = true) :
    Calls Try.prog 8 #[.int .i64 a0, .int .i64 a1, .slice A2 len2 cap2, .agg #[.int .i64 x3_0, .int .i64 x3_1, .int .i64 x3_2, .int .i64 x3_3]] w fun e w' => e = .returned (.bool true) ∧ Below w.heap.size w w' := by
  by_cases h1 : 200 < len2
  · exact perr_out _ _ _ _ _ _ _ _ _ r2 (.inl h1)
  · by_cases h2 : 512 < a0
    · exact perr_out _ _ _ _ _ _ _ _ _ r2 (.inr ⟨by omega, h2⟩)
    · exact perr_walk _ _ _ _ _ _ _ _ _ r2 (wfk_of (bounds_i64 w3_1).1 (bounds_i64 w3_1).2) (wfk_of (bounds_i64 w3_2).1 (bounds_i64 w3_2).2) (by omega) (by omega)

set_option maxRecDepth 100000 in
theorem lifted (os : Os) (started : os.Started) (H : Type) (enc : TypeId × Value → H) :
    ReturnsInHanded {} Try.checked os 8 .any (Rows.policyErrorsSpec.pre6 enc Try.prog Try.f8 Rows.policyErrorsRow.domain false) (Rows.policyErrorsSpec.post enc Try.prog Try.f8 false true false false) := by
  refine returnsInHanded_of_change (C := Try.checked) own started (by kernel_rfl) Try.func8
    (ChangeSpec.witness6 (enc := enc) (C := Try.checked) false ⟨#[], #[.int .i64 0, .int .i64 0, .slice none 0 0, .agg #[.int .i64 0, .int .i64 0, .int .i64 0, .int .i64 0]], []⟩ 8 (by kernel_rfl) (by kernel_rfl) (by kernel_rfl) (by kernel_rfl)) ?_
  intro W base args ds gs before hval0 hW hcnd _
  have hval : ∀ (j : Nat) t v, Try.f8.params[j]? = some t → args[j]? = some v → Value.okWide Try.prog W .any base t v := hval0
  have hW' := hW
  obtain ⟨p, q, hA0, hV, rfl, hfz, hnd⟩ := hW
  have hA : DataW.TrodAll enc Try.prog W 0 (fun _ => true) true Try.f8.params.toList args.toList ds p := hA0
  rw [Try.params8] at hA hval
  obtain ⟨v0, vs0, d0, ds0, p0, q0, hargs, rfl, rfl, h0, tl0⟩ := trodAll_cons hA
  obtain ⟨v1, vs1, d1, ds1, p1, q1, rfl, rfl, rfl, h1, tl1⟩ := trodAll_cons tl0
  obtain ⟨v2, vs2, d2, ds2, p2, q2, rfl, rfl, rfl, h2, tl2⟩ := trodAll_cons tl1
  obtain ⟨v3, vs3, d3, ds3, p3, q3, rfl, rfl, rfl, h3, tl3⟩ := trodAll_cons tl2
  obtain ⟨rfl, rfl, rfl⟩ := trodAll_nil tl3
  obtain rfl : args = #[v0, v1, v2, v3] := by cases args; simp_all
  obtain ⟨rfl, rfl⟩ := trodVars_none hV
  obtain ⟨a0, rfl, rfl, rfl, w0⟩ := open_int Try.underlying3 (hval 0 3 v0 rfl rfl) h0
  obtain ⟨a1, rfl, rfl, rfl, w1⟩ := open_int Try.underlying3 (hval 1 3 v1 rfl rfl) h1
  obtain ⟨A2, len2, cap2, rfl⟩ := okWide_slice Try.underlying22 (hval 2 22 v2 rfl rfl)
  have k2 := h2
  have lt2 : ∀ x ∈ p2, x.block < W.heap.size := by obtain ⟨m, hm⟩ := k2; exact DataW.trod_lt m _ _ _ hm
  obtain ⟨z2, r2⟩ : ∃ z : Nat → Nat → Int, ReadsR 4 W (.slice A2 len2 cap2) len2 z := by
    obtain ⟨fuel, hf⟩ := h2
    exact readsr_struct (by decide) Try.underlying22 Try.underlying28 (by kernel_rfl) (by kernel_rfl) (fun j hj => by
      have hj' : j < 4 := hj
      rcases (show j = 0 ∨ j = 1 ∨ j = 2 ∨ j = 3 by omega) with rfl | rfl | rfl | rfl <;> exact ⟨_, rfl, Try.underlying3⟩) (by simpa [Value.cells] using hf)
  obtain ⟨c3_0, c3_1, c3_2, c3_3, y3_0, y3_1, y3_2, y3_3, m3, rfl, rfl, rfl, hy3_0, hy3_1, hy3_2, hy3_3⟩ := Joins.open_agg4 Try.underlying28 (by kernel_rfl) (by kernel_rfl) (hval 3 28 v3 rfl rfl) h3
  obtain ⟨x3_0, e3_0, rfl, w3_0⟩ := DataW.trod_int Try.underlying3 hy3_0
  simp at e3_0
  subst e3_0
  obtain ⟨x3_1, e3_1, rfl, w3_1⟩ := DataW.trod_int Try.underlying3 hy3_1
  simp at e3_1
  subst e3_1
  obtain ⟨x3_2, e3_2, rfl, w3_2⟩ := DataW.trod_int Try.underlying3 hy3_2
  simp at e3_2
  subst e3_2
  obtain ⟨x3_3, e3_3, rfl, w3_3⟩ := DataW.trod_int Try.underlying3 hy3_3
  simp at e3_3
  subst e3_3
  have sr3 : ∀ (W' : World) (sp : Nat → Bool), DataW.Trod enc Try.prog W' 0 sp true 28 (.agg #[.int .i64 x3_0, .int .i64 x3_1, .int .i64 x3_2, .int .i64 x3_3]) (.agg [.lit (.int .i64 x3_0), .lit (.int .i64 x3_1), .lit (.int .i64 x3_2), .lit (.int .i64 x3_3)]) [] := fun W' sp =>
    Joins.shut_agg4 (y0 := (.lit (.int .i64 x3_0), [])) (y1 := (.lit (.int .i64 x3_1), [])) (y2 := (.lit (.int .i64 x3_2), [])) (y3 := (.lit (.int .i64 x3_3), [])) Try.underlying28 (by kernel_rfl) (by kernel_rfl) ⟨1, by simp [DataW.trod, Try.underlying3, w3_0]⟩ ⟨1, by simp [DataW.trod, Try.underlying3, w3_1]⟩ ⟨1, by simp [DataW.trod, Try.underlying3, w3_2]⟩ ⟨1, by simp [DataW.trod, Try.underlying3, w3_3]⟩
  clear hA0 hval0
  refine (walk W a0 w0 a1 w1 A2 len2 cap2 z2 r2 x3_0 x3_1 x3_2 x3_3 w3_0 w3_1 w3_2 w3_3).mono fun e W' ⟨he, bel⟩ => ?_
  subst he
  exact ⟨_, rfl, _, _, _, [], _, [], hW', trodAll_mk1 (shut_bool Try.underlying4 _), (trodAll_cons_mk (shut_int Try.underlying3 w0) (trodAll_cons_mk (shut_int Try.underlying3 w1) (trodAll_cons_mk (Below.trod laidOut (by kernel_rfl) (of_decide_eq_true (by kernel_rfl)) k2 bel lt2) (trodAll_cons_mk (sr3 _ _) trodAll_mk0)))), rfl, bel.frame _, fun h => by cases h⟩

theorem over : Rows.policyErrorsRow.holds Try.pinned (OpenSpec.ofChange Rows.policyErrorsSpec) :=
  OpenClaim.holds_of_wide 8 Try.f8 rfl rfl rfl rfl rfl rfl rfl ⟨rfl, rfl, rfl, rfl, rfl⟩ rfl rfl rfl rfl rfl (by kernel_rfl) Try.func8 (by kernel_rfl)
    (of_decide_eq_true (by kernel_rfl)) (by unfold Func.isWrapper; first | (rw [if_pos (by decide +kernel)]; kernel_rfl) | (rw [if_neg (by decide +kernel)]; exact ⟨rfl, rfl⟩))
    (fun os started H enc _ => lifted os started H enc)

theorem proved : Rows.PolicyErrorsSaid := over
#print axioms proved
end Go.Proofs.Ytnhdjpeadhcajaa.policyErrors
namespace Go.Proofs.Ytnhdjpeadhcajaa
/-- The row, under a short name. -/
theorem policyErrors_holds : Rows.PolicyErrorsSaid := policyErrors.proved
end Go.Proofs.Ytnhdjpeadhcajaa
