/- Contracts of layer 9's functions: what is right, and what is not the window's. -/
import Derived.Test.YtndmbajdafecoaaQuota
namespace Go.Proofs.Ytndmbajdafecoaa
open Go.RowKit Go.Sep
def rightB (a b p : Int) : Bool := (a == ofC a) && ((b == shW a b 0) && (p == pr (ofC a) (shW a b 0)))
set_option maxHeartbeats 800000 in
theorem right_calls (a b p : Int) : TellsB 21 #[.agg (quotaC a b p)] (.bool (rightB a b p)) := by
  intro w0
  have hc := fun w => shift_calls a b p 0 w
  have hO := ((Owned.nil w0).alloc (.cells (quotaC a b p) 34))
  have g0 := Owned.cell hO 0
  have g1 := Owned.cell hO 1
  have g2 := Owned.cell hO 2
  have hn : ∀ w', Below w0.heap.size w0 w' → True := fun _ _ => trivial
  clear hn
  have HO := Lib.hid hO
  clear hO
  unfold rightB
  simp only [shQ] at hc
  generalize pr (ofC a) (shW a b 0) = q at *
  generalize shW a b 0 = v at *
  generalize ofC a = c at *
  unfold quotaC at *
  replace g0 : (w0.alloc (.cells #[.int .i64 a, .int .i64 b, .int .i64 p] 34)).cell? ⟨w0.heap.size, 0, none⟩ = some (.int .i64 a) := g0
  replace g1 : (w0.alloc (.cells #[.int .i64 a, .int .i64 b, .int .i64 p] 34)).cell? ⟨w0.heap.size, 1, none⟩ = some (.int .i64 b) := g1
  replace g2 : (w0.alloc (.cells #[.int .i64 a, .int .i64 b, .int .i64 p] 34)).cell? ⟨w0.heap.size, 2, none⟩ = some (.int .i64 p) := g2
  cases h1 : (a == c) <;> cases h2 : (b == v) <;> cases h3 : (p == q)
  all_goals
    go_enter Try.func21, Try.ntmps21
    go_wp2
    go_region_held3 (fun w' => w'.cell? ⟨w0.heap.size, 0, none⟩ = some (.int .i64 a) ∧ w'.cell? ⟨w0.heap.size, 1, none⟩ = some (.int .i64 b) ∧ w'.cell? ⟨w0.heap.size, 2, none⟩ = some (.int .i64 p)) (first | exact ⟨g0, g1, g2⟩ | exact ⟨d0, d1, d2⟩ | go_keep)
      (first | (go_at_call 29; (with_reducible refine (hc _).mono ?_); rintro e w4 ⟨rfl, hb4⟩; have d0 := (hb4.cell (p := ⟨w0.heap.size, 0, none⟩) (by simp)).trans g0; have d1 := (hb4.cell (p := ⟨w0.heap.size, 1, none⟩) (by simp)).trans g1; have d2 := (hb4.cell (p := ⟨w0.heap.size, 2, none⟩) (by simp)).trans g2))
    go_wp2_with fail
    go_ret
    exact ⟨rfl, (HO.out.drew.under hb4).below⟩
end Go.Proofs.Ytndmbajdafecoaa
