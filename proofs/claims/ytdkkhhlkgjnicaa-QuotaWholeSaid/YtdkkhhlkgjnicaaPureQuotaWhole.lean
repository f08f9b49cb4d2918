/- For every capacity and every two shifts, what Of and Shift tell is right and adds up: the pure law behind QuotaWhole. -/
import Derived.Test.YtdkkhhlkgjnicaaPQuotaWholex3
import Derived.OpenShut
namespace Go.Proofs.Ytdkkhhlkgjnicaa.Pure
open Go.RowKit Go.Proofs.Ytdkkhhlkgjnicaa.PQuotaWhole Go.Proofs.YtdkkhhlkgjnicaaW.PrintWords Go.Proofs.YtdkkhhlkgjnicaaW.PrintLast Go.Proofs.YtdkkhhlkgjnicaaW.PrintMore

namespace QuotaWholeL
theorem wfb {a : Int} (h : (Lit.int .i64 a).wf = true) : -9223372036854775808 ≤ a ∧ a ≤ 9223372036854775807 := by
  have := bounds_i64 h; omega
theorem td (c : Int) (h : 0 ≤ c) (k : Int) : Int.tdiv c k = c / k := Int.tdiv_eq_ediv_of_nonneg h
theorem w64 {n : Int} (h0 : -9223372036854775808 ≤ n) (h1 : n ≤ 9223372036854775807) : wrap64 n = n := by unfold wrap64; omega
def lo (c : Int) : Int := if c = 0 then 0 else 1
def hi (c : Int) : Int := if c = 0 then 0 else c - c / 5
def cl (n l h : Int) : Int := mn (mx n l) h
def pr (c w : Int) : Int := (c - w) - (c - w) / 5
theorem clamp_eq (n l h : Int) : quota_clamp_int.f n l h = some (cl n l h) := rfl
theorem ends_eq {c : Int} (h0 : 0 ≤ c) (h1 : c ≤ 4611686018427387903) : quota_ends.f c = some (lo c, hi c) := by
  unfold quota_ends.f lo hi
  rw [td c h0]
  split
  · rfl
  · rw [w64 (n := c / 5) (by omega) (by omega), w64 (by omega) (by omega)]
theorem with_eq {c w : Int} (h0 : 0 ≤ w) (h1 : w ≤ c) (h2 : c ≤ 4611686018427387903) : quota_with.f c w = some (c, w, pr c w) := by
  unfold quota_with.f pr
  rw [w64 (n := c - w) (by omega) (by omega), td (c - w) (by omega), w64 (n := (c - w) / 5) (by omega) (by omega), w64 (by omega) (by omega)]
/-- A quota that is right. -/
structure RightQ (c w p : Int) : Prop where
  c0 : 0 ≤ c
  c1 : c ≤ 4611686018427387903
  w0 : lo c ≤ w
  w1 : w ≤ hi c
  p0 : p = pr c w
theorem lohi {c : Int} (h0 : 0 ≤ c) : 0 ≤ lo c ∧ lo c ≤ hi c ∧ hi c ≤ c ∧ lo c ≤ 1 := by unfold lo hi; omega
theorem cl_in {n l h : Int} (hl : l ≤ h) : l ≤ cl n l h ∧ cl n l h ≤ h := by unfold cl mn mx; omega
theorem cl_id {n l h : Int} (h0 : l ≤ n) (h1 : n ≤ h) : cl n l h = n := by unfold cl mn mx; omega
theorem of_eq (a : Int) : quota_Of.f a = some (cl a 0 4611686018427387903, cl (cl a 0 4611686018427387903 / 100) (lo (cl a 0 4611686018427387903)) (hi (cl a 0 4611686018427387903)), pr (cl a 0 4611686018427387903) (cl (cl a 0 4611686018427387903 / 100) (lo (cl a 0 4611686018427387903)) (hi (cl a 0 4611686018427387903))))
    ∧ RightQ (cl a 0 4611686018427387903) (cl (cl a 0 4611686018427387903 / 100) (lo (cl a 0 4611686018427387903)) (hi (cl a 0 4611686018427387903))) (pr (cl a 0 4611686018427387903) (cl (cl a 0 4611686018427387903 / 100) (lo (cl a 0 4611686018427387903)) (hi (cl a 0 4611686018427387903)))) := by
  unfold quota_Of.f
  have hc := cl_in (n := a) (l := 0) (h := 4611686018427387903) (by omega)
  rw [clamp_eq]; simp only [Option.bind_some]
  generalize cl a 0 4611686018427387903 = c at hc ⊢
  have hl := lohi hc.1
  rw [ends_eq hc.1 hc.2]; simp only [Option.bind_some]
  rw [td c hc.1, w64 (n := c / 100) (by omega) (by omega), clamp_eq]; simp only [Option.bind_some]
  have hw := cl_in (n := c / 100) (l := lo c) (h := hi c) hl.2.1
  generalize cl (c / 100) (lo c) (hi c) = w at hw ⊢
  rw [with_eq (by omega) (by omega) hc.2]
  exact ⟨rfl, hc.1, hc.2, hw.1, hw.2, rfl⟩
/-- Any shift. -/
theorem shift_any (c0 w0 p0 : Int) (by_ : Int) : ∃ c w, quota_Shift.f c0 w0 p0 by_ = some (c, w + cl by_ (lo c - w) (hi c - w), pr c (w + cl by_ (lo c - w) (hi c - w))) ∧ c = cl c0 0 4611686018427387903 ∧ w = cl w0 (lo c) (hi c) ∧ RightQ c (w + cl by_ (lo c - w) (hi c - w)) (pr c (w + cl by_ (lo c - w) (hi c - w))) := by
  unfold quota_Shift.f
  have hc := cl_in (n := c0) (l := 0) (h := 4611686018427387903) (by omega)
  rw [clamp_eq]; simp only [Option.bind_some]
  refine ⟨cl c0 0 4611686018427387903, cl w0 (lo (cl c0 0 4611686018427387903)) (hi (cl c0 0 4611686018427387903)), ?_⟩
  generalize cl c0 0 4611686018427387903 = c at hc ⊢
  have hl := lohi hc.1
  rw [ends_eq hc.1 hc.2]; simp only [Option.bind_some]
  rw [clamp_eq]; simp only [Option.bind_some]
  have hw := cl_in (n := w0) (l := lo c) (h := hi c) hl.2.1
  generalize cl w0 (lo c) (hi c) = w at hw ⊢
  rw [w64 (n := lo c - w) (by omega) (by omega), w64 (n := hi c - w) (by omega) (by omega), clamp_eq]; simp only [Option.bind_some]
  have hv := cl_in (n := by_) (l := lo c - w) (h := hi c - w) (by omega)
  generalize cl by_ (lo c - w) (hi c - w) = v at hv ⊢
  rw [w64 (n := w + v) (by omega) (by omega), with_eq (by omega) (by omega) hc.2]
  exact ⟨rfl, trivial, trivial, hc.1, hc.2, by omega, by omega, rfl⟩
/-- A right quota's shift. -/
theorem shift_eq {c w p : Int} (g : RightQ c w p) (by_ : Int) : quota_Shift.f c w p by_ = some (c, w + cl by_ (lo c - w) (hi c - w), pr c (w + cl by_ (lo c - w) (hi c - w))) ∧ RightQ c (w + cl by_ (lo c - w) (hi c - w)) (pr c (w + cl by_ (lo c - w) (hi c - w))) := by
  obtain ⟨c', w', h, hc, hw, hg⟩ := shift_any c w p by_
  rw [cl_id g.c0 g.c1] at hc
  subst hc
  rw [cl_id g.w0 g.w1] at hw
  subst hw
  exact ⟨h, hg⟩
theorem right_eq {c w p : Int} (g : RightQ c w p) : quota_Right.f c w p = some true := by
  unfold quota_Right.f
  have hl := lohi g.c0
  have hw0 := g.w0
  have hw1 := g.w1
  obtain ⟨h, _⟩ := shift_eq g 0
  rw [h, cl_id (by omega) (by omega)]
  simp [g.p0]
theorem main_eq {c w p : Int} (g : RightQ c w p) : quota_Main.f c w p = some (c - w) := by
  have hl := lohi g.c0
  have hw0 := g.w0
  have hw1 := g.w1
  have hc1 := g.c1
  unfold quota_Main.f
  rw [right_eq g]
  simp only [Option.bind_some, if_true]
  rw [w64 (by omega) (by omega)]
theorem small_eq : pantrylaw09_small.f = some true := by
  decide +kernel
end QuotaWholeL
open QuotaWholeL
theorem round {k : Nat} {a0 : Int} {l : List S23} {i : Int} {q : S23} (h0 : 0 ≤ i) (h3 : i < 3) (hl : l.length = 3) (hq : rd_T23 l i = q) (g : RightQ q.f0 q.f1 q.f2)
    (hc : 0 ≤ a0 → a0 ≤ 4611686018427387903 → q.f0 = a0) : pantrylaw09_QuotaWhole.l0 (k + 2) a0 true l i = pantrylaw09_QuotaWhole.l0 k a0 true l (i + 1) := by
  have hw : wrap64 (i + 1) = i + 1 := w64 (by omega) (by omega)
  have hlo := lohi g.c0
  have hw0 := g.w0
  have hw1 := g.w1
  have hc0 := g.c0
  have hc1 := g.c1
  have hp := g.p0
  unfold pr at hp
  rw [pantrylaw09_QuotaWhole.l0]
  rw [hq, main_eq g, right_eq g]
  simp only [Option.bind_some, if_true]
  rw [if_pos h3, if_pos h0, if_pos (by omega), if_neg (by omega), if_neg (by omega)]
  have e1 : wrap64 (q.f0 - q.f1 - q.f2) = q.f0 - q.f1 - q.f2 := w64 (by omega) (by omega)
  have e2 : wrap64 (q.f1 + q.f2) = q.f1 + q.f2 := w64 (by omega) (by omega)
  have e3 : wrap64 (q.f1 + q.f2 + (q.f0 - q.f1 - q.f2)) = q.f0 := by rw [w64 (by omega) (by omega)]; omega
  have e4 : wrap64 (Int.tdiv (q.f0 - q.f1) 5) = (q.f0 - q.f1) / 5 := by rw [td _ (by omega), w64 (by omega) (by omega)]
  rw [e1, e2, e3, e4, if_neg (by omega), if_pos rfl, if_neg (by omega), if_neg (by omega)]
  have e5 : (q.f0 - q.f1 - q.f2 != (q.f0 - q.f1) / 5) = false := by rw [bne_eq_false_iff_eq]; omega
  rw [e5]
  have j : pantrylaw09_QuotaWhole.j1 (k + 1) a0 true l i false q.f0 q.f1 q.f2 = pantrylaw09_QuotaWhole.l0 k a0 true l (i + 1) := by
    rw [pantrylaw09_QuotaWhole.j1]
    rw [if_neg (by decide), hw]
    split
    · split
      · rw [if_pos (hc ‹_› ‹_›)]
      · rfl
    · rfl
  rw [j]
  split
  · rw [if_neg]
    have : ¬ q.f0 = 0 := by omega
    unfold lo at hw0; rw [if_neg this] at hw0; omega
  · rfl

theorem QuotaWhole : pantrylaw09_QuotaWhole.Pure := by
  intro a0 a1 a2 w0 w1 w2
  refine ⟨7, ?_⟩
  unfold pantrylaw09_QuotaWhole.f
  obtain ⟨h0, g0⟩ := of_eq a0
  have hcc : 0 ≤ a0 → a0 ≤ 4611686018427387903 → cl a0 0 4611686018427387903 = a0 := fun h h' => cl_id h h'
  generalize cl a0 0 4611686018427387903 = c at h0 g0 hcc
  generalize cl (c / 100) (lo c) (hi c) = w at h0 g0
  generalize pr c w = p at h0 g0
  obtain ⟨h1, g1⟩ := shift_eq g0 a1
  generalize w + cl a1 (lo c - w) (hi c - w) = w' at h1 g1
  generalize pr c w' = p' at h1 g1
  obtain ⟨h2, g2⟩ := shift_eq g1 a2
  generalize w' + cl a2 (lo c - w') (hi c - w') = w'' at h2 g2
  generalize pr c w'' = p'' at h2 g2
  rw [small_eq, h0]
  simp only [Option.bind_some]
  rw [h1]
  simp only [Option.bind_some]
  rw [h2]
  simp only [Option.bind_some]
  rw [round (k := 5) (q := ⟨c, w, p⟩) (by omega) (by omega) rfl rfl g0 hcc,
    round (k := 3) (q := ⟨c, w', p'⟩) (by omega) (by omega) rfl rfl g1 hcc,
    round (k := 1) (q := ⟨c, w'', p''⟩) (by omega) (by omega) rfl rfl g2 hcc]
  rw [pantrylaw09_QuotaWhole.l0, if_neg (by omega)]

end Go.Proofs.Ytdkkhhlkgjnicaa.Pure
