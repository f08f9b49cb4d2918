/- Merged texts: Contracts of layer 10's functions: climbs. -/
import Derived.Test.YtnhdjpeadhcajaaK16
namespace Go.Proofs.Ytnhdjpeadhcajaa
open Go.RowKit Go.Sep
theorem max_if : ∀ x y : Int, (if x < y then y else x) = max x y := fun x y => by split <;> omega
theorem min_if : ∀ x y : Int, (if x < y then x else y) = min y x := fun x y => by split <;> omega
/-- the cells of a climb -/
def climbC (h m l s : Int) : Array Value := #[.int .i64 h, .int .i64 m, .int .i64 l, .int .i64 s]
theorem und_climb : Try.prog.underlying 45 = some (.struct (Try.prog.fieldsOf 45)) := by kernel_rfl
theorem info_climb : (Try.prog.info? 45).map (·.size) = some 4 := by kernel_rfl
theorem climb_one (h m l s : Int) : (climbC h m l s).all (·.oneCell') = true := by simp [climbC, Value.oneCell']
def fitN (n : Int) : Int := cl n 0 1099511627776
def fitL (n : Int) : Int := cl n 0 65536
def fitS (n : Int) : Int := cl n (-4611686018427387903) 4611686018427387903
theorem fitN_in (n : Int) : 0 ≤ fitN n ∧ fitN n ≤ 1099511627776 := cl_in (by omega)
theorem fitL_in (n : Int) : 0 ≤ fitL n ∧ fitL n ≤ 65536 := cl_in (by omega)
theorem fitS_in (n : Int) : -4611686018427387903 ≤ fitS n ∧ fitS n ≤ 4611686018427387903 := cl_in (by omega)
theorem fitN_id {n : Int} (h0 : 0 ≤ n) (h1 : n ≤ 1099511627776) : fitN n = n := cl_id h0 h1
theorem fitL_id {n : Int} (h0 : 0 ≤ n) (h1 : n ≤ 65536) : fitL n = n := cl_id h0 h1
theorem fitS_id {n : Int} (h0 : -4611686018427387903 ≤ n) (h1 : n ≤ 4611686018427387903) : fitS n = n := cl_id h0 h1
def fitC (h m l s : Int) : Array Value := climbC (fitN h) (fitN m) (fitL l) (fitS s)
theorem within_calls {w0 w : World} {g : Nat} {cs cs' : Array Value} {t : TypeId} {l : Own} (k : Nat) (n lo_ hi_ : Int) (hO : Owned w0 w ((g, .cells cs t (0, 0)) :: l)) (hk : cs[k]? = some (.int .i64 n)) (he : cs.setIfInBounds k (.int .i64 (cl n lo_ hi_)) = cs') :
    Calls Try.prog 85 #[.pointer (some ⟨g, k, none⟩), .int .i64 lo_, .int .i64 hi_] w fun e w' => e = .returned (.tuple #[]) ∧ Owned w0 w' ((g, .cells cs' t (0, 0)) :: l) := by
  have c1 := (Owned.cell hO k).trans hk
  have f1 := Owned.frozen hO k
  have h2 := Owned.set hO k (.int .i64 (cl n lo_ hi_))
  rw [he] at h2
  have H2 := Lib.hid h2
  have hmax := max_if
  have hmin := min_if
  clear hO hk h2 he
  unfold cl at H2
  go_enter Try.func85, Try.ntmps85
  go_wp2
  go_end0
  exact ⟨rfl, H2.out⟩
set_option maxHeartbeats 800000 in
theorem fit_calls (h m l s : Int) : TellsQ 69 #[.agg (climbC h m l s)] (.agg (fitC h m l s)) := by
  intro w0
  have hO := ((Owned.nil w0).alloc (.cells (climbC h m l s) 45)).alloc (.cells (climbC 0 0 0 0) 45)
  rw [show (w0.alloc (.cells (climbC h m l s) 45)).heap.size = w0.heap.size + 1 by simp] at hO
  have HO := Lib.hid hO.swap
  clear hO
  unfold climbC at *
  go_enter Try.func69, Try.ntmps69
  go_wp2_with fail
  go_at_call 85
  refine (within_calls 0 h 0 1099511627776 HO.out rfl rfl).mono ?_
  rintro e w1 ⟨rfl, hO1⟩
  have HO1 := Lib.hid hO1
  clear hO1
  go_wp2_with fail
  go_at_call 85
  refine (within_calls 1 m 0 1099511627776 HO1.out rfl rfl).mono ?_
  rintro e w2 ⟨rfl, hO2⟩
  have HO2 := Lib.hid hO2
  clear hO2
  go_wp2_with fail
  go_at_call 85
  refine (within_calls 2 l 0 65536 HO2.out rfl rfl).mono ?_
  rintro e w3 ⟨rfl, hO3⟩
  have HO3 := Lib.hid hO3
  clear hO3
  go_wp2_with fail
  go_at_call 85
  refine (within_calls 3 s (-4611686018427387903) 4611686018427387903 HO3.out rfl rfl).mono ?_
  rintro e w4 ⟨rfl, hO4⟩
  have HO4 := Lib.hid hO4
  clear hO4
  go_wp2_with (first
    | (refine load_whole rfl _ _ rfl w0.heap.size rfl HO4.out _ und_climb rfl info_climb ?_)
    | (refine store_whole rfl _ _ _ rfl (w0.heap.size + 1) rfl HO4.out.swap (fitC h m l s) rfl rfl info_climb (climb_one _ _ _ _) ?_; intro w5 hO5; have HO5 := Lib.hid hO5; clear hO5))
  exact bodyPost_ret (results_cell_row rfl _ _ (w0.heap.size + 1) _ (fitC h m l s) _ _ rfl HO5.out.head und_climb rfl info_climb) rfl ⟨rfl, HO5.out.below⟩
def firstN (c : Int) : Int := max (min (max c 0) 4611686018427387903 / 16) 1
theorem firstN_in (c : Int) : 1 ≤ firstN c ∧ firstN c ≤ 4611686018427387903 := by unfold firstN; omega
theorem first_calls (c : Int) : Tells 42 #[.int .i64 c] (.int .i64 (firstN c)) := by
  intro w
  have h1 : 0 ≤ min (max 0 c) 4611686018427387903 := by omega
  have h2 : min (max 0 c) 4611686018427387903 ≤ 4611686018427387903 := by omega
  have e : firstN c = max 1 (min (max 0 c) 4611686018427387903 / 16) := by unfold firstN; omega
  rw [e]
  have hmax := max_if
  have hmin := min_if
  clear e
  go_enter Try.func42, Try.ntmps42
  go_wp2
  go_ret
  exact ⟨ret_int (by omega), rfl⟩
def keptN (n : Int) : Int := n.tdiv 100 * 98 + (n.tmod 100 * 98).tdiv 100
theorem tdm (n : Int) : n = 100 * n.tdiv 100 + n.tmod 100 ∧ -100 < n.tmod 100 ∧ n.tmod 100 < 100 ∧ (0 ≤ n → 0 ≤ n.tdiv 100 ∧ 0 ≤ n.tmod 100) ∧ (n ≤ 0 → n.tdiv 100 ≤ 0 ∧ n.tmod 100 ≤ 0) := by
  have h := Int.mul_tdiv_add_tmod n 100
  by_cases h0 : 0 ≤ n
  · rw [Int.tdiv_eq_ediv_of_nonneg h0, Int.tmod_eq_emod_of_nonneg h0] at *
    omega
  · have e1 : n.tdiv 100 = -((-n) / 100) := by rw [← Int.tdiv_eq_ediv_of_nonneg (by omega), Int.neg_tdiv, Int.neg_neg]
    have e2 : n.tmod 100 = -((-n) % 100) := by rw [← Int.tmod_eq_emod_of_nonneg (by omega), Int.neg_tmod, Int.neg_neg]
    rw [e1, e2] at *
    omega
theorem td100 (n : Int) : (0 ≤ n → n.tdiv 100 = n / 100) ∧ (n ≤ 0 → n.tdiv 100 = -((-n) / 100)) := by
  refine ⟨fun h => Int.tdiv_eq_ediv_of_nonneg h, fun h => ?_⟩
  rw [← Int.tdiv_eq_ediv_of_nonneg (by omega), Int.neg_tdiv, Int.neg_neg]
theorem kept_word (n : Int) (h0 : -4611686018427387903 ≤ n) (h1 : n ≤ 4611686018427387903) :
    wrap64 (wrap64 (wrap64 (n.tdiv 100) * 98) + wrap64 ((wrap64 (n.tmod 100 * 98)).tdiv 100)) = keptN n := by
  obtain ⟨k1, k2, k3, k4, k5⟩ := tdm n
  have e1 : wrap64 (n.tdiv 100) = n.tdiv 100 := by unfold wrap64; omega
  rw [e1]
  have e3 : wrap64 (n.tmod 100 * 98) = n.tmod 100 * 98 := by unfold wrap64; omega
  have e4 : wrap64 (n.tdiv 100 * 98) = n.tdiv 100 * 98 := by unfold wrap64; omega
  obtain ⟨j1, j2⟩ := td100 (n.tmod 100 * 98)
  rw [e3, e4]
  have e5 : wrap64 ((n.tmod 100 * 98).tdiv 100) = (n.tmod 100 * 98).tdiv 100 := by unfold wrap64; omega
  rw [e5]
  unfold keptN wrap64
  omega
theorem keptN_in (n : Int) : (0 ≤ n → 0 ≤ keptN n ∧ keptN n ≤ n ∧ (0 < n → keptN n < n)) ∧ (n ≤ 0 → keptN n ≤ 0 ∧ n ≤ keptN n ∧ (n < 0 → n < keptN n)) := by
  obtain ⟨k1, k2, k3, k4, k5⟩ := tdm n
  obtain ⟨j1, j2⟩ := td100 (n.tmod 100 * 98)
  unfold keptN
  omega
set_option maxHeartbeats 800000 in
theorem kept_calls (n : Int) (h0 : -4611686018427387903 ≤ n) (h1 : n ≤ 4611686018427387903) : Tells 71 #[.int .i64 n] (.int .i64 (keptN n)) := by
  intro w
  have HK := Lib.hid (kept_word n h0 h1)
  clear h0 h1
  go_enter Try.func71, Try.ntmps71
  go_wp2
  go_ret
  refine ⟨ret_int ?_, rfl⟩
  rw [← HK.out]
theorem new_calls (c : Int) : TellsQ 24 #[.int .i64 c] (.agg (climbC 0 0 0 (firstN c))) := by
  intro w0
  have c1 := first_calls c
  have HO := Lib.hid ((Owned.nil w0).alloc (.cells (climbC 0 0 0 0) 45))
  unfold climbC at *
  go_enter Try.func24, Try.ntmps24
  go_wp2_with fail
  go_at_call 42
  refine (c1 _).mono ?_
  rintro e w1 ⟨rfl, rfl⟩
  go_wp2_with (refine store_whole rfl _ _ _ rfl w0.heap.size rfl HO.out (climbC 0 0 0 (firstN c)) rfl rfl info_climb (climb_one _ _ _ _) ?_; intro w2 hO2; have HO2 := Lib.hid hO2; clear hO2)
  exact bodyPost_ret (results_cell_row rfl _ _ w0.heap.size _ (climbC 0 0 0 (firstN c)) _ _ rfl HO2.out.head und_climb rfl info_climb) rfl ⟨rfl, HO2.out.below⟩
end Go.Proofs.Ytnhdjpeadhcajaa
