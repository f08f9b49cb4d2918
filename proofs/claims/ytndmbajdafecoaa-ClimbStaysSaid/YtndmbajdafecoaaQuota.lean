/- Contracts of layer 9's functions: quotas. -/
import Derived.Test.YtndmbajdafecoaaWords
import Derived.Test.YtndmbajdafecoaaSep
import Derived.Deep.RegionHeld3
import Derived.Deep.QuietTactic
import Derived.BigQuiet
namespace Go.Proofs.Ytndmbajdafecoaa
open Go.RowKit Go.Sep
/-- a call that makes memory and tells -/
def TellsB (f : Nat) (args : Array Value) (v : Value) : Prop := ∀ w, Calls Try.prog f args w fun e w' => e = .returned v ∧ Below w.heap.size w w'
def cl (n l h : Int) : Int := min (max n l) h
def lo (c : Int) : Int := if c = 0 then 0 else 1
def hi (c : Int) : Int := if c = 0 then 0 else c - c / 5
def pr (c w : Int) : Int := (c - w) - (c - w) / 5
theorem cl_in {n l h : Int} (hl : l ≤ h) : l ≤ cl n l h ∧ cl n l h ≤ h := by unfold cl; omega
theorem cl_id {n l h : Int} (h0 : l ≤ n) (h1 : n ≤ h) : cl n l h = n := by unfold cl; omega
theorem lohi {c : Int} (h0 : 0 ≤ c) : 0 ≤ lo c ∧ lo c ≤ hi c ∧ hi c ≤ c ∧ lo c ≤ 1 := by unfold lo hi; split <;> omega
/-- the cells of a quota -/
def quotaC (c w p : Int) : Array Value := #[.int .i64 c, .int .i64 w, .int .i64 p]
theorem ret_int {k : IntKind} {a b : Int} (h : a = b) : Ending.returned (.int k a) = .returned (.int k b) := by rw [h]
theorem clamp_calls (n l h : Int) : Tells 33 #[.int .i64 n, .int .i64 l, .int .i64 h] (.int .i64 (cl n l h)) := by
  intro w
  go_enter Try.func33, Try.ntmps33
  go_wp2
  all_goals
    go_ret
    exact ⟨ret_int (by unfold cl; omega), rfl⟩
theorem ends_calls (c : Int) (h0 : 0 ≤ c) (h1 : c ≤ 4611686018427387903) : Tells 34 #[.int .i64 c] (.tuple #[.int .i64 (lo c), .int .i64 (hi c)]) := by
  intro w
  by_cases hc : c = 0
  · subst hc
    go_enter Try.func34, Try.ntmps34
    go_wp2
    go_ret2
    exact ⟨rfl, rfl⟩
  · have hne : (c == 0) = false := by simpa using hc
    have e1 : lo c = 1 := by unfold lo; rw [if_neg hc]
    have e2 : hi c = c - c / 5 := by unfold hi; rw [if_neg hc]
    rw [e1, e2]
    clear e1 e2 hc
    go_enter Try.func34, Try.ntmps34
    go_wp2
    go_ret2
    exact ⟨rfl, rfl⟩
theorem und_quota : Try.prog.underlying 34 = some (.struct (Try.prog.fieldsOf 34)) := by kernel_rfl
theorem info_quota : (Try.prog.info? 34).map (·.size) = some 3 := by kernel_rfl
theorem quota_one (c w p : Int) : (quotaC c w p).all (·.oneCell') = true := by simp [quotaC, Value.oneCell']
theorem with_calls (c w : Int) (h0 : 0 ≤ w) (h1 : w ≤ c) (h2 : c ≤ 4611686018427387903) : TellsB 35 #[.int .i64 c, .int .i64 w] (.agg (quotaC c w (pr c w))) := by
  intro w0
  have hO := (Owned.nil w0).alloc (.cells #[.int .i64 0, .int .i64 0, .int .i64 0] 34)
  have HO := Lib.hid hO
  clear hO
  go_enter Try.func35, Try.ntmps35
  go_wp2_with (refine store_whole rfl _ _ _ rfl w0.heap.size rfl HO.out (quotaC _ _ _) rfl rfl info_quota (quota_one _ _ _) ?_; intro w2 hO2; have HO2 := Lib.hid hO2; clear hO2)
  exact bodyPost_ret (results_cell_row rfl _ _ w0.heap.size _ (quotaC c w (pr c w)) _ _ rfl HO2.out.head und_quota rfl info_quota) rfl ⟨rfl, HO2.out.below⟩
def ofC (a : Int) : Int := cl a 0 4611686018427387903
def ofW (a : Int) : Int := cl (ofC a / 100) (lo (ofC a)) (hi (ofC a))
theorem ofC_in (a : Int) : 0 ≤ ofC a ∧ ofC a ≤ 4611686018427387903 := cl_in (by omega)
theorem ofW_in (a : Int) : lo (ofC a) ≤ ofW a ∧ ofW a ≤ hi (ofC a) := cl_in (lohi (ofC_in a).1).2.1
/-- a quota that is told -/
def ofQ (a : Int) : Value := .agg (quotaC (ofC a) (ofW a) (pr (ofC a) (ofW a)))
theorem of_calls (a : Int) : TellsB 28 #[.int .i64 a] (ofQ a) := by
  intro w0
  have hO := (Owned.nil w0).alloc (.cells #[.int .i64 0, .int .i64 0, .int .i64 0] 34)
  have HO := Lib.hid hO
  clear hO
  have hc := ofC_in a
  have hw := ofW_in a
  have hl := lohi hc.1
  have c1 : Tells 33 #[.int .i64 a, .int .i64 0, .int .i64 4611686018427387903] (.int .i64 (ofC a)) := clamp_calls a 0 4611686018427387903
  have c2 := ends_calls (ofC a) hc.1 hc.2
  have c3 : Tells 33 #[.int .i64 (ofC a / 100), .int .i64 (lo (ofC a)), .int .i64 (hi (ofC a))] (.int .i64 (ofW a)) := clamp_calls _ _ _
  have c4 := with_calls (ofC a) (ofW a) (by omega) (by omega) hc.2
  unfold ofQ
  generalize pr (ofC a) (ofW a) = p at *
  generalize ofW a = w at *
  generalize ofC a = c at *
  generalize lo c = l at *
  generalize hi c = h at *
  obtain ⟨hc1, hc2⟩ := hc
  go_enter Try.func28, Try.ntmps28
  go_wp2_with fail
  go_at_call 33
  refine (c1 _).mono ?_
  rintro e w1 ⟨rfl, rfl⟩
  go_wp2_with fail
  go_at_call 34
  refine (c2 _).mono ?_
  rintro e w1 ⟨rfl, rfl⟩
  go_wp2_with fail
  go_at_call 33
  refine (c3 _).mono ?_
  rintro e w1 ⟨rfl, rfl⟩
  go_wp2_with fail
  go_at_call 35
  refine (c4 _).mono ?_
  rintro e w1 ⟨rfl, hb1⟩
  have HO1 := Lib.hid (HO.out.under hb1)
  go_wp2_with (refine store_whole rfl _ _ _ rfl w0.heap.size rfl HO1.out (quotaC _ _ _) rfl rfl info_quota (quota_one _ _ _) ?_; intro w2 hO2; have HO2 := Lib.hid hO2; clear hO2)
  exact bodyPost_ret (results_cell_row rfl _ _ w0.heap.size _ (quotaC c w p) _ _ rfl HO2.out.head und_quota rfl info_quota) rfl ⟨rfl, HO2.out.below⟩
/-- what a shift tells: the window -/
def shW (c w by_ : Int) : Int := cl w (lo (ofC c)) (hi (ofC c)) + cl by_ (lo (ofC c) - cl w (lo (ofC c)) (hi (ofC c))) (hi (ofC c) - cl w (lo (ofC c)) (hi (ofC c)))
def shQ (c w by_ : Int) : Value := .agg (quotaC (ofC c) (shW c w by_) (pr (ofC c) (shW c w by_)))
theorem shW_in (c w by_ : Int) : lo (ofC c) ≤ shW c w by_ ∧ shW c w by_ ≤ hi (ofC c) := by
  have hl := lohi (ofC_in c).1
  have h1 := cl_in (n := w) hl.2.1
  unfold shW
  generalize cl w (lo (ofC c)) (hi (ofC c)) = v at *
  have h2 := cl_in (n := by_) (l := lo (ofC c) - v) (h := hi (ofC c) - v) (by omega)
  omega
theorem shift_calls (a b p by_ : Int) : TellsB 29 #[.agg (quotaC a b p), .int .i64 by_] (shQ a b by_) := by
  intro w0
  have hO := ((Owned.nil w0).alloc (.cells (quotaC a b p) 34)).alloc (.cells #[.int .i64 0, .int .i64 0, .int .i64 0] 34)
  rw [show (w0.alloc (.cells (quotaC a b p) 34)).heap.size = w0.heap.size + 1 by simp] at hO
  have HO := Lib.hid hO
  clear hO
  have hc := ofC_in a
  have hl := lohi hc.1
  have hsw := shW_in a b by_
  have c1 : Tells 33 #[.int .i64 a, .int .i64 0, .int .i64 4611686018427387903] (.int .i64 (ofC a)) := clamp_calls a 0 4611686018427387903
  have c2 := ends_calls (ofC a) hc.1 hc.2
  have c3 := clamp_calls b (lo (ofC a)) (hi (ofC a))
  have h1 := cl_in (n := b) hl.2.1
  have c4 := clamp_calls by_ (lo (ofC a) - cl b (lo (ofC a)) (hi (ofC a))) (hi (ofC a) - cl b (lo (ofC a)) (hi (ofC a)))
  have h2 := cl_in (n := by_) (l := lo (ofC a) - cl b (lo (ofC a)) (hi (ofC a))) (h := hi (ofC a) - cl b (lo (ofC a)) (hi (ofC a))) (by omega)
  have c5 := with_calls (ofC a) (shW a b by_) (by omega) (by omega) hc.2
  have he : shW a b by_ = cl b (lo (ofC a)) (hi (ofC a)) + cl by_ (lo (ofC a) - cl b (lo (ofC a)) (hi (ofC a))) (hi (ofC a) - cl b (lo (ofC a)) (hi (ofC a))) := rfl
  unfold shQ
  rw [he] at c5 hsw
  rw [he]
  clear he
  generalize cl by_ (lo (ofC a) - cl b (lo (ofC a)) (hi (ofC a))) (hi (ofC a) - cl b (lo (ofC a)) (hi (ofC a))) = v at *
  generalize cl b (lo (ofC a)) (hi (ofC a)) = u at *
  generalize pr (ofC a) (u + v) = q at *
  generalize ofC a = c at *
  generalize lo c = l at *
  generalize hi c = h at *
  obtain ⟨hc1, hc2⟩ := hc
  obtain ⟨hl1, hl2, hl3, hl4⟩ := hl
  obtain ⟨h11, h12⟩ := h1
  obtain ⟨h21, h22⟩ := h2
  obtain ⟨h31, h32⟩ := hsw
  unfold quotaC
  go_enter Try.func29, Try.ntmps29
  go_wp2_with fail
  go_at_call 33
  refine (c1 _).mono ?_
  rintro e w1 ⟨rfl, rfl⟩
  go_wp2_with fail
  go_at_call 34
  refine (c2 _).mono ?_
  rintro e w1 ⟨rfl, rfl⟩
  go_wp2_with fail
  go_at_call 33
  refine (c3 _).mono ?_
  rintro e w1 ⟨rfl, rfl⟩
  go_wp2_with fail
  go_at_call 33
  refine (c4 _).mono ?_
  rintro e w1 ⟨rfl, rfl⟩
  go_wp2_with fail
  go_at_call 35
  refine (c5 _).mono ?_
  rintro e w1 ⟨rfl, hb1⟩
  have HO1 := Lib.hid (HO.out.under hb1)
  go_wp2_with (refine store_whole rfl _ _ _ rfl (w0.heap.size + 1) rfl HO1.out (quotaC _ _ _) rfl rfl info_quota (quota_one _ _ _) ?_; intro w2 hO2; have HO2 := Lib.hid hO2; clear hO2)
  exact bodyPost_ret (results_cell_row rfl _ _ (w0.heap.size + 1) _ (quotaC c (u + v) q) _ _ rfl HO2.out.head und_quota rfl info_quota) rfl ⟨rfl, HO2.out.below⟩
end Go.Proofs.Ytndmbajdafecoaa
