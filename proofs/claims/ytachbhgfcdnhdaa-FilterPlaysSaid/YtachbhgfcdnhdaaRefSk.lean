/- Contracts of the document's sketch (pantryref03) over own memory. -/
import Derived.Test.YtachbhgfcdnhdaaSketch9
import Derived.Test.YtachbhgfcdnhdaaMixR
import Derived.Lib.QuietBelow
import Derived.StillTailTactics
namespace Go.Proofs.Ytachbhgfcdnhdaa
open Go.RowKit NibPure Go.Sep
theorem min_if' : ∀ x y : Int, (if x < y then x else y) = min y x := fun x y => by split <;> omega
def rowV (S : Nat → Nat → Nat) (k W : Nat) : Array Value := (ints (rowN S k W)).toArray
/-- the document's sketch: its own block and its rows' -/
def rsB (g : Nat) (seed : Int) (W N : Nat) (rb : Nat → Nat) (S : Nat → Nat → Nat) : Own :=
  [(g, .cells #[.int .i64 (W : Int), .int .i64 seed, .int .i64 (N : Int), .slice (some ⟨rb 0, 0, none⟩) W W, .slice (some ⟨rb 1, 0, none⟩) W W, .slice (some ⟨rb 2, 0, none⟩) W W, .slice (some ⟨rb 3, 0, none⟩) W W] 56 (0, 0)),
   (rb 0, .cells (rowV S 0 W) 3 (0, 0)), (rb 1, .cells (rowV S 1 W) 3 (0, 0)), (rb 2, .cells (rowV S 2 W) 3 (0, 0)), (rb 3, .cells (rowV S 3 W) 3 (0, 0))]
def updS (S : Nat → Nat → Nat) (k q v : Nat) : Nat → Nat → Nat := fun i c => if i = k ∧ c = q then v else S i c
theorem rowV_get (S : Nat → Nat → Nat) (k W : Nat) {q : Nat} (h : q < W) : (rowV S k W)[q]? = some (.int .i64 ((S k q : Nat) : Int)) := by
  unfold rowV
  rw [ints_get _ _ (by rw [rowN_len]; exact h), rowN_get _ _ _ _ h]
theorem rowV_set (S : Nat → Nat → Nat) (k W q v : Nat) : (rowV S k W).setIfInBounds q (.int .i64 (v : Int)) = rowV (updS S k q v) k W := by
  apply Array.ext_getElem?
  intro j
  have hs : ∀ T, (rowV T k W).size = W := fun T => by simp [rowV, ints, rowN]
  by_cases hj : j < W
  · rw [rowV_get _ _ _ hj]
    by_cases e : q = j
    · subst e
      rw [Array.getElem?_setIfInBounds_self_of_lt (by rw [hs]; exact hj)]
      unfold updS
      rw [if_pos ⟨rfl, rfl⟩]
    · rw [Array.getElem?_setIfInBounds_ne e, rowV_get _ _ _ hj]
      unfold updS
      rw [if_neg (fun h => e h.2.symm)]
  · rw [Array.getElem?_eq_none (by rw [Array.size_setIfInBounds, hs]; omega), Array.getElem?_eq_none (by rw [hs]; omega)]
theorem rowV_other (S : Nat → Nat → Nat) {i k : Nat} (h : i ≠ k) (W q v : Nat) : rowV (updS S k q v) i W = rowV S i W := by
  unfold rowV rowN
  congr 2
  exact List.map_congr_left (fun c _ => by unfold updS; rw [if_neg (fun h2 => h h2.1)])
section
variable {g W N : Nat} {seed : Int} {rb : Nat → Nat} {S : Nat → Nat → Nat} {w0 w : World} {F : Own}
theorem rs_c0 (h : Owned w0 w (rsB g seed W N rb S ++ F)) : w.cell? ⟨g, 0, none⟩ = some (.int .i64 (W : Int)) := (Owned.cell h 0).trans rfl
theorem rs_c1 (h : Owned w0 w (rsB g seed W N rb S ++ F)) : w.cell? ⟨g, 1, none⟩ = some (.int .i64 seed) := (Owned.cell h 1).trans rfl
theorem rs_c2 (h : Owned w0 w (rsB g seed W N rb S ++ F)) : w.cell? ⟨g, 2, none⟩ = some (.int .i64 (N : Int)) := (Owned.cell h 2).trans rfl
theorem rs_row (h : Owned w0 w (rsB g seed W N rb S ++ F)) : ∀ k, k < 4 → w.cell? ⟨g, 3 + k, none⟩ = some (.slice (some ⟨rb k, 0, none⟩) W W)
  | 0, _ => (Owned.cell h 3).trans rfl
  | 1, _ => (Owned.cell h 4).trans rfl
  | 2, _ => (Owned.cell h 5).trans rfl
  | 3, _ => (Owned.cell h 6).trans rfl
  | n + 4, h => absurd h (by omega)
theorem rs_front (h : Owned w0 w (rsB g seed W N rb S ++ F)) : ∀ k, k < 4 → ∃ l, Owned w0 w ((rb k, .cells (rowV S k W) 3 (0, 0)) :: l) ∧ ∀ (q v : Nat) (w' : World), Owned w0 w' ((rb k, .cells (rowV (updS S k q v) k W) 3 (0, 0)) :: l) → Owned w0 w' (rsB g seed W N rb (updS S k q v) ++ F)
  | 0, _ => ⟨_, Owned.comm (a := [_]) (b := [_]) h, fun q v w' hw => by
      unfold rsB
      rw [rowV_other S (i := 1) (by omega), rowV_other S (i := 2) (by omega), rowV_other S (i := 3) (by omega)]
      exact Owned.comm (b := [_]) (a := [_]) hw⟩
  | 1, _ => ⟨_, Owned.comm (a := [_, _]) (b := [_]) h, fun q v w' hw => by
      unfold rsB
      rw [rowV_other S (i := 0) (by omega), rowV_other S (i := 2) (by omega), rowV_other S (i := 3) (by omega)]
      exact Owned.comm (b := [_, _]) (a := [_]) hw⟩
  | 2, _ => ⟨_, Owned.comm (a := [_, _, _]) (b := [_]) h, fun q v w' hw => by
      unfold rsB
      rw [rowV_other S (i := 0) (by omega), rowV_other S (i := 1) (by omega), rowV_other S (i := 3) (by omega)]
      exact Owned.comm (b := [_, _, _]) (a := [_]) hw⟩
  | 3, _ => ⟨_, Owned.comm (a := [_, _, _, _]) (b := [_]) h, fun q v w' hw => by
      unfold rsB
      rw [rowV_other S (i := 0) (by omega), rowV_other S (i := 1) (by omega), rowV_other S (i := 2) (by omega)]
      exact Owned.comm (b := [_, _, _, _]) (a := [_]) hw⟩
  | n + 4, h => absurd h (by omega)
theorem rs_cell (h : Owned w0 w (rsB g seed W N rb S ++ F)) {k q : Nat} (hk : k < 4) (hq : q < W) : w.cell? ⟨rb k, q, none⟩ = some (.int .i64 ((S k q : Nat) : Int)) := by
  obtain ⟨l, h1, _⟩ := rs_front h k hk
  exact (Owned.cell h1 q).trans (rowV_get _ _ _ hq)
theorem rs_free (h : Owned w0 w (rsB g seed W N rb S ++ F)) {k : Nat} (hk : k < 4) (q : Nat) : w.frozen? ⟨rb k, q, none⟩ = false := by
  obtain ⟨l, h1, _⟩ := rs_front h k hk
  exact Owned.frozen h1 q
theorem rs_set (h : Owned w0 w (rsB g seed W N rb S ++ F)) {k : Nat} (hk : k < 4) (q v : Nat) : Owned w0 (w.setCell ⟨rb k, q, none⟩ (.int .i64 (v : Int))) (rsB g seed W N rb (updS S k q v) ++ F) := by
  obtain ⟨l, h1, h2⟩ := rs_front h k hk
  have := Owned.set h1 q (.int .i64 (v : Int))
  rw [rowV_set] at this
  exact h2 _ _ _ this
set_option maxHeartbeats 400000 in
theorem rs_at (key : Int) (row : Nat) (hW : W ≤ 1000000) (h : Owned w0 w (rsB g seed W N rb S ++ F)) :
    Calls Try.prog 39 #[.pointer (some ⟨g, 0, none⟩), .int .i64 key, .int .i64 (row : Int)] w fun e w' => e = .returned (.int .i64 (plS seed key W row : Nat)) ∧ Below w.heap.size w w' := by
  have c0 := cell_regrown (rs_c0 h)
  have c1 := cell_regrown (rs_c1 h)
  have hl := mixN_lt (wd key) (wd seed)
  have cm : ∀ w, Calls Try.prog 50 #[.int .i64 seed, .int .i64 key] w fun e w' => e = .returned (.int .u64 (mixN (wd key) (wd seed))) ∧ Below w.heap.size w w' := fun w => (rmix_calls seed key w).mono (by rintro e w' ⟨rfl, rfl⟩; exact ⟨rfl, Below.refl _ _⟩)
  unfold plS
  generalize mixN (wd key) (wd seed) = hh at *
  have ci : ∀ w, Calls Try.prog 49 #[.int .u64 hh, .int .i64 (row : Int), .int .i64 (W : Int)] w fun e w' => e = .returned (.int .i64 (idx hh row W : Nat)) ∧ Below w.heap.size w w' := fun w => (rindex_calls hh hl row W (by omega) w).mono (by rintro e w' ⟨rfl, rfl⟩; exact ⟨rfl, Below.refl _ _⟩)
  clear h hl
  generalize ((idx hh row W : Nat) : Int) = r at *
  generalize (row : Int) = rw_ at *
  go_enter Try.func39, Try.ntmps39
  go_wp2_with fail
  refine wp_region_quiet_below (by kernel_rfl) (by kernel_rfl) ?_
  repeat (first | go_big_quiet_step ((first | (go_at_call 50; with_reducible exact Calls.regrown_of (cm _)) | (go_at_call 49; with_reducible exact Calls.regrown_of (ci _)))) | quiet_step ((first | (go_at_call 50; with_reducible exact Calls.regrown_of (cm _)) | (go_at_call 49; with_reducible exact Calls.regrown_of (ci _)))))
  refine wpQuiet_nil ?_
  intro _ hw'
  obtain ⟨⟨dq, osq⟩, hw''⟩ := hw'
  subst hw''
  go_wp2_with fail
  go_ret
  exact ⟨rfl, below_regrown _ dq osq⟩
def mnD (S : Nat → Nat → Nat) (p : Nat → Nat) (k : Nat) : Nat := min (mnS S p k) 15
theorem mnD_four {S : Nat → Nat → Nat} (h : Lo S) (p : Nat → Nat) : mnD S p 4 = mnS S p 4 := by
  have := mnS_lo h p
  unfold mnD
  omega
set_option maxHeartbeats 1600000 in
set_option maxRecDepth 100000 in
theorem rs_count (key : Int) (hW0 : 1 ≤ W) (hW : W ≤ 1000000) {p : Nat → Nat} (hp : plS seed key W = p) {m : Nat} (hm : mnD S p 4 = m) (h : Owned w0 w (rsB g seed W N rb S ++ F)) :
    Calls Try.prog 27 #[.pointer (some ⟨g, 0, none⟩), .int .i64 key] w fun e w' => e = .returned (.int .i64 (m : Nat)) ∧ Below w.heap.size w w' := by
  subst hm
  have hpl := fun k => plS_lt seed key hW0 k
  rw [hp] at hpl
  have hat := fun (k : Nat) (w : World) d os (h : Owned w0 w (rsB g seed W N rb S ++ F)) => rs_at key k hW (h.under (below_regrown w d os))
  rw [hp] at hat
  have HAT := Lib.hid hat
  have hst : ∀ k, mnD S p (k + 1) = min (mnD S p k) (S k (p k)) := fun k => by unfold mnD; rw [mnS]; omega
  have HST := Lib.hid hst
  have HP := Lib.hid hpl
  have HO := Lib.hid (And.intro h (Below.refl w.heap.size w))
  have hmin := min_if'
  clear hp hpl hat hst h
  generalize hM : mnD S p = M at *
  have HM := Lib.hid (show M 0 = 15 from by rw [← hM]; rfl)
  clear hM
  go_enter Try.func27, Try.ntmps27
  go_wp2_with fail
  go_loopw [5, 6] (fun x5 x6 wr => ∃ k : Nat, k ≤ 4 ∧ x6 = .int .i64 k ∧ x5 = .int .i64 (M k : Nat) ∧ Hid (Owned w0 wr (rsB g seed W N rb S ++ F) ∧ Below w.heap.size w wr)) (fun _ x6 _ => 4 - (intOf x6).toNat)
  case atStart => exact ⟨0, by omega, rfl, by rw [HM.out]; rfl, HO⟩
  case round =>
    clear HO
    obtain ⟨k, hk, rfl, rfl, hrel⟩ := hrel
    by_cases hlt : k < 4
    · have cr := cell_regrown (rs_row hrel.out.1 k hlt)
      have ca := fun d os => HAT.out k wr d os hrel.out.1
      have hpk := HP.out k
      have cc := cell_regrown (rs_cell hrel.out.1 hlt hpk)
      have hs := HST.out k
      have HS := Lib.hid hs
      clear hs
      generalize S k (p k) = x at *
      generalize p k = pk at *
      generalize M k = mk at *
      have k3 : ((pk : Nat) : Int) < (W : Int) := by omega
      have k4 : (0 : Int) ≤ ((pk : Nat) : Int) := by omega
      have k5 : (k : Int) < 4 := by omega
      go_wp2_with fail
      refine wp_region_quiet_below (by kernel_rfl) (by kernel_rfl) ?_
      repeat (first | go_big_quiet_step ((first | (go_at_call 39; with_reducible exact Calls.regrown_of (ca _ _)))) | quiet_step ((first | (go_at_call 39; with_reducible exact Calls.regrown_of (ca _ _)))))
      refine wpQuiet_nil ?_
      intro _ hw'
      obtain ⟨⟨dq, osq⟩, hw''⟩ := hw'
      subst hw''
      have HO2 := Lib.hid (And.intro (hrel.out.1.under (below_regrown _ dq osq)) (hrel.out.2.trans ((below_regrown _ dq osq).mono hrel.out.2.size)))
      go_wp2_with fail
      go_roundw
      case rel => exact ⟨k + 1, by omega, by go_num, by rw [HS.out]; go_num, HO2⟩
      case measure => simp [intOf]; omega
    · obtain rfl : k = 4 := by omega
      go_wp2_with fail
      go_ret
      exact ⟨rfl, hrel.out.2⟩
end
end Go.Proofs.Ytachbhgfcdnhdaa
