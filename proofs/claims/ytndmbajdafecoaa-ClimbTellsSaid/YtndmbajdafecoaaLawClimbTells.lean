/- The statement ClimbTells: its row, out of the walk of the law (the frame is the guide's own proof-skeleton). -/
import Derived.Test.YtndmbajdafecoaaRows
import Derived.Test.YtndmbajdafecoaaClimbLaws
import Derived.WalkKit
import Derived.ProofKit
import Derived.OpenShut
import Derived.ShutString
import Derived.Lib.SmallJoins
import Derived.Deep.Grids
import Derived.Carry
namespace Go.Proofs.Ytndmbajdafecoaa.climbTells
open Go.ChangeShapes Go.WideShapes Go.ChangeAt Go.RowKit Go.Deep
open Go.ChangeMaps (open_string shut_string)
set_option linter.unusedVariables false

theorem own : ownKnob Try.prog.godebug = none := by kernel_rfl
theorem laidOut : laidOutB Try.prog = true := by kernel_rfl

theorem walk (w : World) (x0_0 : Int) (x0_1 : Int) (x0_2 : Int) (x0_3 : Int) (w0_0 : (Lit.int .i64 x0_0).wf = true) (w0_1 : (Lit.int .i64 x0_1).wf = true) (w0_2 : (Lit.int .i64 x0_2).wf = true) (w0_3 : (Lit.int .i64 x0_3).wf = true) (b1 : Bool) (a2 : Int) (w2 : (Lit.int .i64 a2).wf = true) (a3 : Int) (w3 : (Lit.int .i64 a3).wf = true) :
    Calls Try.prog 3 #[.agg #[.int .i64 x0_0, .int .i64 x0_1, .int .i64 x0_2, .int .i64 x0_3], .bool b1, .int .i64 a2, .int .i64 a3] w fun e w' => e = .returned (.bool true) ∧ Below w.heap.size w w' := by
  exact tells_walk x0_0 x0_1 x0_2 x0_3 b1 a2 a3 w

set_option maxRecDepth 100000 in
theorem lifted (os : Os) (started : os.Started) (H : Type) (enc : TypeId × Value → H) :
    ReturnsInHanded {} Try.checked os 3 .any (Rows.climbTellsSpec.pre6 enc Try.prog Try.f3 Rows.climbTellsRow.domain false) (Rows.climbTellsSpec.post enc Try.prog Try.f3 false true false false) := by
  refine returnsInHanded_of_change (C := Try.checked) own started (by kernel_rfl) Try.func3
    (ChangeSpec.witness6 (enc := enc) (C := Try.checked) false ⟨#[], #[.agg #[.int .i64 0, .int .i64 0, .int .i64 0, .int .i64 0], .bool false, .int .i64 0, .int .i64 0], []⟩ 8 (by kernel_rfl) (by kernel_rfl) (by kernel_rfl) (by kernel_rfl)) ?_
  intro W base args ds gs before hval0 hW hcnd _
  have hval : ∀ (j : Nat) t v, Try.f3.params[j]? = some t → args[j]? = some v → Value.okWide Try.prog W .any base t v := hval0
  have hW' := hW
  obtain ⟨p, q, hA0, hV, rfl, hfz, hnd⟩ := hW
  have hA : DataW.TrodAll enc Try.prog W 0 (fun _ => true) true Try.f3.params.toList args.toList ds p := hA0
  rw [Try.params3] at hA hval
  obtain ⟨v0, vs0, d0, ds0, p0, q0, hargs, rfl, rfl, h0, r0⟩ := trodAll_cons hA
  obtain ⟨v1, vs1, d1, ds1, p1, q1, rfl, rfl, rfl, h1, r1⟩ := trodAll_cons r0
  obtain ⟨v2, vs2, d2, ds2, p2, q2, rfl, rfl, rfl, h2, r2⟩ := trodAll_cons r1
  obtain ⟨v3, vs3, d3, ds3, p3, q3, rfl, rfl, rfl, h3, r3⟩ := trodAll_cons r2
  obtain ⟨rfl, rfl, rfl⟩ := trodAll_nil r3
  obtain rfl : args = #[v0, v1, v2, v3] := by cases args; simp_all
  obtain ⟨rfl, rfl⟩ := trodVars_none hV
  obtain ⟨c0_0, c0_1, c0_2, c0_3, y0_0, y0_1, y0_2, y0_3, m0, rfl, rfl, rfl, hy0_0, hy0_1, hy0_2, hy0_3⟩ := Joins.open_agg4 Try.underlying23 (by kernel_rfl) (by kernel_rfl) (hval 0 23 v0 rfl rfl) h0
  obtain ⟨x0_0, e0_0, rfl, w0_0⟩ := DataW.trod_int Try.underlying3 hy0_0
  simp at e0_0
  subst e0_0
  obtain ⟨x0_1, e0_1, rfl, w0_1⟩ := DataW.trod_int Try.underlying3 hy0_1
  simp at e0_1
  subst e0_1
  obtain ⟨x0_2, e0_2, rfl, w0_2⟩ := DataW.trod_int Try.underlying3 hy0_2
  simp at e0_2
  subst e0_2
  obtain ⟨x0_3, e0_3, rfl, w0_3⟩ := DataW.trod_int Try.underlying3 hy0_3
  simp at e0_3
  subst e0_3
  have sr0 : ∀ (W' : World) (sp : Nat → Bool), DataW.Trod enc Try.prog W' 0 sp true 23 (.agg #[.int .i64 x0_0, .int .i64 x0_1, .int .i64 x0_2, .int .i64 x0_3]) (.agg [.lit (.int .i64 x0_0), .lit (.int .i64 x0_1), .lit (.int .i64 x0_2), .lit (.int .i64 x0_3)]) [] := fun W' sp =>
    Joins.shut_agg4 (y0 := (.lit (.int .i64 x0_0), [])) (y1 := (.lit (.int .i64 x0_1), [])) (y2 := (.lit (.int .i64 x0_2), [])) (y3 := (.lit (.int .i64 x0_3), [])) Try.underlying23 (by kernel_rfl) (by kernel_rfl) ⟨1, by simp [DataW.trod, Try.underlying3, w0_0]⟩ ⟨1, by simp [DataW.trod, Try.underlying3, w0_1]⟩ ⟨1, by simp [DataW.trod, Try.underlying3, w0_2]⟩ ⟨1, by simp [DataW.trod, Try.underlying3, w0_3]⟩
  obtain ⟨b1, rfl, rfl, rfl⟩ := open_bool Try.underlying4 (hval 1 4 v1 rfl rfl) h1
  obtain ⟨a2, rfl, rfl, rfl, w2⟩ := open_int Try.underlying3 (hval 2 3 v2 rfl rfl) h2
  obtain ⟨a3, rfl, rfl, rfl, w3⟩ := open_int Try.underlying3 (hval 3 3 v3 rfl rfl) h3
  clear hA0 hval0
  refine (walk W x0_0 x0_1 x0_2 x0_3 w0_0 w0_1 w0_2 w0_3 b1 a2 w2 a3 w3).mono fun e W' ⟨he, bel⟩ => ?_
  subst he
  exact ⟨_, rfl, _, _, _, [], _, [], hW', trodAll_mk1 (shut_bool Try.underlying4 _), (trodAll_cons_mk (sr0 _ _) (trodAll_cons_mk (shut_bool Try.underlying4 b1) (trodAll_cons_mk (shut_int Try.underlying3 w2) (trodAll_cons_mk (shut_int Try.underlying3 w3) trodAll_mk0)))), rfl, bel.frame _, fun h => by cases h⟩

theorem over : Rows.climbTellsRow.holds Try.pinned (OpenSpec.ofChange Rows.climbTellsSpec) :=
  OpenClaim.holds_of_wide 3 Try.f3 rfl rfl rfl rfl rfl rfl rfl ⟨rfl, rfl, rfl, rfl, rfl⟩ rfl rfl rfl rfl rfl (by kernel_rfl) Try.func3 (by kernel_rfl)
    (of_decide_eq_true (by kernel_rfl)) (by unfold Func.isWrapper; first | (rw [if_pos (by decide +kernel)]; kernel_rfl) | (rw [if_neg (by decide +kernel)]; exact ⟨rfl, rfl⟩))
    (fun os started H enc _ => lifted os started H enc)

theorem proved : Rows.ClimbTellsSaid := over
#print axioms proved
end Go.Proofs.Ytndmbajdafecoaa.climbTells
namespace Go.Proofs.Ytndmbajdafecoaa
/-- The row, under a short name. -/
theorem climbTells_holds : Rows.ClimbTellsSaid := climbTells.proved
end Go.Proofs.Ytndmbajdafecoaa
