/- For every capacity and shifts, a shift there and back leaves a right quota as it was: the pure law behind QuotaBack. -/
import Derived.Test.YtdkkhhlkgjnicaaPQuotaBackx3
import Derived.OpenShut
namespace Go.Proofs.Ytdkkhhlkgjnicaa.Pure
open Go.RowKit Go.Proofs.Ytdkkhhlkgjnicaa.PQuotaBack Go.Proofs.YtdkkhhlkgjnicaaW.PrintWords Go.Proofs.YtdkkhhlkgjnicaaW.PrintLast Go.Proofs.YtdkkhhlkgjnicaaW.PrintMore

namespace QuotaBackL
theorem wfb {a : Int} (h : (Lit.int .i64 a).wf = true) : -9223372036854775808 ≤ a ∧ a ≤ 9223372036854775807 := by
  have := bounds_i64 h; omega
theorem td (c : Int) (h : 0 ≤ c) (k : Int) : Int.tdiv c k = c / k := Int.tdiv_eq_ediv_of_nonneg h
theorem w64 {n : Int} (h0 : -9223372036854775808 ≤ n) (h1 : n ≤ 9223372036854775807) : wrap64 n = n := by unfold wrap64; omega
def lo (c : Int) : Int := if c = 0 then 0 else 1
def hi (c : Int) : Int := if c = 0 then 0 else c - c / 5
def cl (n l h : Int) : Int := mn (mx n l) h
def pr (c w : Int) : Int := (c - w) - (c - w) / 5
theorem clamp_eq (n l h : Int) : quota_clamp_int.f n l h = some (cl n l h) := rfl
theorem ends_eq {c : Int} (h0 : 0 ≤ c) (h1 : c ≤ 4611686018427387903) : quota_ends.f c = some (lo c, hi c) := by
  unfold quota_ends.f lo hi
  rw [td c h0]
  split
  · rfl
  · rw [w64 (n := c / 5) (by omega) (by omega), w64 (by omega) (by omega)]
theorem with_eq {c w : Int} (h0 : 0 ≤ w) (h1 : w ≤ c) (h2 : c ≤ 4611686018427387903) : quota_with.f c w = some (c, w, pr c w) := by
  unfold quota_with.f pr
  rw [w64 (n := c - w) (by omega) (by omega), td (c - w) (by omega), w64 (n := (c - w) / 5) (by omega) (by omega), w64 (by omega) (by omega)]
/-- A quota that is right. -/
structure RightQ (c w p : Int) : Prop where
  c0 : 0 ≤ c
  c1 : c ≤ 4611686018427387903
  w0 : lo c ≤ w
  w1 : w ≤ hi c
  p0 : p = pr c w
theorem lohi {c : Int} (h0 : 0 ≤ c) : 0 ≤ lo c ∧ lo c ≤ hi c ∧ hi c ≤ c ∧ lo c ≤ 1 := by unfold lo hi; omega
theorem cl_in {n l h : Int} (hl : l ≤ h) : l ≤ cl n l h ∧ cl n l h ≤ h := by unfold cl mn mx; omega
theorem cl_id {n l h : Int} (h0 : l ≤ n) (h1 : n ≤ h) : cl n l h = n := by unfold cl mn mx; omega
theorem of_eq (a : Int) : quota_Of.f a = some (cl a 0 4611686018427387903, cl (cl a 0 4611686018427387903 / 100) (lo (cl a 0 4611686018427387903)) (hi (cl a 0 4611686018427387903)), pr (cl a 0 4611686018427387903) (cl (cl a 0 4611686018427387903 / 100) (lo (cl a 0 4611686018427387903)) (hi (cl a 0 4611686018427387903))))
    ∧ RightQ (cl a 0 4611686018427387903) (cl (cl a 0 4611686018427387903 / 100) (lo (cl a 0 4611686018427387903)) (hi (cl a 0 4611686018427387903))) (pr (cl a 0 4611686018427387903) (cl (cl a 0 4611686018427387903 / 100) (lo (cl a 0 4611686018427387903)) (hi (cl a 0 4611686018427387903)))) := by
  unfold quota_Of.f
  have hc := cl_in (n := a) (l := 0) (h := 4611686018427387903) (by omega)
  rw [clamp_eq]; simp only [Option.bind_some]
  generalize cl a 0 4611686018427387903 = c at hc ⊢
  have hl := lohi hc.1
  rw [ends_eq hc.1 hc.2]; simp only [Option.bind_some]
  rw [td c hc.1, w64 (n := c / 100) (by omega) (by omega), clamp_eq]; simp only [Option.bind_some]
  have hw := cl_in (n := c / 100) (l := lo c) (h := hi c) hl.2.1
  generalize cl (c / 100) (lo c) (hi c) = w at hw ⊢
  rw [with_eq (by omega) (by omega) hc.2]
  exact ⟨rfl, hc.1, hc.2, hw.1, hw.2, rfl⟩
/-- Any shift. -/
theorem shift_any (c0 w0 p0 : Int) (by_ : Int) : ∃ c w, quota_Shift.f c0 w0 p0 by_ = some (c, w + cl by_ (lo c - w) (hi c - w), pr c (w + cl by_ (lo c - w) (hi c - w))) ∧ c = cl c0 0 4611686018427387903 ∧ w = cl w0 (lo c) (hi c) ∧ RightQ c (w + cl by_ (lo c - w) (hi c - w)) (pr c (w + cl by_ (lo c - w) (hi c - w))) := by
  unfold quota_Shift.f
  have hc := cl_in (n := c0) (l := 0) (h := 4611686018427387903) (by omega)
  rw [clamp_eq]; simp only [Option.bind_some]
  refine ⟨cl c0 0 4611686018427387903, cl w0 (lo (cl c0 0 4611686018427387903)) (hi (cl c0 0 4611686018427387903)), ?_⟩
  generalize cl c0 0 4611686018427387903 = c at hc ⊢
  have hl := lohi hc.1
  rw [ends_eq hc.1 hc.2]; simp only [Option.bind_some]
  rw [clamp_eq]; simp only [Option.bind_some]
  have hw := cl_in (n := w0) (l := lo c) (h := hi c) hl.2.1
  generalize cl w0 (lo c) (hi c) = w at hw ⊢
  rw [w64 (n := lo c - w) (by omega) (by omega), w64 (n := hi c - w) (by omega) (by omega), clamp_eq]; simp only [Option.bind_some]
  have hv := cl_in (n := by_) (l := lo c - w) (h := hi c - w) (by omega)
  generalize cl by_ (lo c - w) (hi c - w) = v at hv ⊢
  rw [w64 (n := w + v) (by omega) (by omega), with_eq (by omega) (by omega) hc.2]
  exact ⟨rfl, trivial, trivial, hc.1, hc.2, by omega, by omega, rfl⟩
/-- A right quota's shift. -/
theorem shift_eq {c w p : Int} (g : RightQ c w p) (by_ : Int) : quota_Shift.f c w p by_ = some (c, w + cl by_ (lo c - w) (hi c - w), pr c (w + cl by_ (lo c - w) (hi c - w))) ∧ RightQ c (w + cl by_ (lo c - w) (hi c - w)) (pr c (w + cl by_ (lo c - w) (hi c - w))) := by
  obtain ⟨c', w', h, hc, hw, hg⟩ := shift_any c w p by_
  rw [cl_id g.c0 g.c1] at hc
  subst hc
  rw [cl_id g.w0 g.w1] at hw
  subst hw
  exact ⟨h, hg⟩
theorem right_eq {c w p : Int} (g : RightQ c w p) : quota_Right.f c w p = some true := by
  unfold quota_Right.f
  have hl := lohi g.c0
  have hw0 := g.w0
  have hw1 := g.w1
  obtain ⟨h, _⟩ := shift_eq g 0
  rw [h, cl_id (by omega) (by omega)]
  simp [g.p0]
theorem main_eq {c w p : Int} (g : RightQ c w p) : quota_Main.f c w p = some (c - w) := by
  have hl := lohi g.c0
  have hw0 := g.w0
  have hw1 := g.w1
  have hc1 := g.c1
  unfold quota_Main.f
  rw [right_eq g]
  simp only [Option.bind_some, if_true]
  rw [w64 (by omega) (by omega)]
theorem small_eq : pantrylaw09_small.f = some true := by
  decide +kernel
end QuotaBackL
open QuotaBackL
theorem QuotaBack : pantrylaw09_QuotaBack.Pure := by
  intro a0 a1 a2 a3 w0 w1 w2 w3
  refine ⟨1, ?_⟩
  unfold pantrylaw09_QuotaBack.f
  obtain ⟨h0, g0⟩ := of_eq a0
  generalize cl a0 0 4611686018427387903 = c at h0 g0
  generalize cl (c / 100) (lo c) (hi c) = w at h0 g0
  generalize pr c w = p at h0 g0
  obtain ⟨h1, g1⟩ := shift_eq g0 a1
  generalize w + cl a1 (lo c - w) (hi c - w) = v at h1 g1
  generalize hq : pr c v = q at h1 g1
  rw [small_eq, h0]
  simp only [Option.bind_some]
  rw [h1]
  simp only [Option.bind_some]
  have jt : pantrylaw09_QuotaBack.j0 1 a2 a3 true true c v q = some true := by rw [pantrylaw09_QuotaBack.j0, if_pos rfl]
  split
  · exact jt
  split
  · exact jt
  split
  · exact jt
  by_cases h3 : a3 > 1099511627776
  · rw [decide_eq_true h3]; exact jt
  rw [decide_eq_false h3]
  rw [pantrylaw09_QuotaBack.j0, if_neg (by decide)]
  rw [w64 (n := -a2) (by omega) (by omega), w64 (n := a2 + a3) (by omega) (by omega)]
  obtain ⟨h2, g2⟩ := shift_eq g1 a2
  have hl := lohi g1.c0
  have gw0 := g1.w0
  have gw1 := g1.w1
  have gc1 := g1.c1
  have e1 : wrap64 (v + a2) = v + a2 := w64 (by omega) (by omega)
  have m1 : cl a2 (lo c - v) (hi c - v) = mn (mx a2 (lo c - v)) (hi c - v) := rfl
  have hx := cl_in (n := a2) (l := lo c - v) (h := hi c - v) (by omega)
  obtain ⟨h4, g4⟩ := shift_eq g1 (a2 + a3)
  have m3 : cl (a2 + a3) (lo c - v) (hi c - v) = mn (mx (a2 + a3) (lo c - v)) (hi c - v) := rfl
  generalize cl a2 (lo c - v) (hi c - v) = x at h2 g2 m1 hx
  obtain ⟨h3', g3⟩ := shift_eq g2 (-a2)
  have m2 : cl (-a2) (lo c - (v + x)) (hi c - (v + x)) = mn (mx (-a2) (lo c - (v + x))) (hi c - (v + x)) := rfl
  generalize cl (-a2) (lo c - (v + x)) (hi c - (v + x)) = y at h3' g3 m2
  generalize cl (a2 + a3) (lo c - v) (hi c - v) = z at h4 g4 m3
  rw [h2]
  simp only [Option.bind_some]
  rw [h3', h4]
  simp only [Option.bind_some, if_true]
  rw [e1]
  unfold mn mx at m1 m2 m3
  have k1 : v + z ≥ v + x := by omega
  have k2 : pr c (v + z) ≤ pr c (v + x) := by unfold pr; omega
  have k3 : ¬ a2 < 0 → v + x ≥ v := by omega
  have tail : (if v + z ≥ v + x then (if pr c (v + z) ≤ pr c (v + x) then (if a2 < 0 then some true else some (decide (v + x ≥ v))) else some false) else some false) = some true := by
    rw [if_pos k1, if_pos k2]
    split
    · rfl
    · rw [decide_eq_true (k3 ‹_›)]
  by_cases hm : v + x = v + a2
  · rw [if_pos hm]
    have hy : v + x + y = v := by omega
    have hb : (c == c && (v + x + y == v && pr c (v + x + y) == q)) = true := by rw [hy, hq]; simp
    rw [if_pos hb]
    exact tail
  · rw [if_neg hm]
    exact tail

end Go.Proofs.Ytdkkhhlkgjnicaa.Pure
