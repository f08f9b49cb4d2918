/- Layer 13: stripes: what they tell: Len, Lost, Lens, Place. -/
import Derived.Test.YtjhoipbffadcjaaStripes2
import Derived.Deep.RegionWith
namespace Go.Proofs.Ytjhoipbffadcjaa
open Go.RowKit Go.Sep
def sumL (L : Nat → List Int) : Nat → Nat
  | 0 => 0
  | k + 1 => sumL L k + (L k).length
def sumG (G : Nat → Nat) : Nat → Nat
  | 0 => 0
  | k + 1 => sumG G k + G k
def plT (seed thread : Int) (m : Nat) : Nat := idx (mixN (wd thread) (wd seed)) 0 m
theorem plT_lt (seed thread : Int) {m : Nat} (h : 1 ≤ m) : plT seed thread m < m := idx_lt _ _ _ h
section
variable {g n m : Nat} {seed : Int} {L : Nat → List Int} {G : Nat → Nat} {w0 w : World} {F r : Own}
theorem StIn.len_le {v : Value} {q : Own} {gs : List Nat} {os : List Own} (h : StIn n v q gs m L G os) {i : Nat} (hi : i < m) : (L i).length ≤ 4096 := by
  obtain ⟨c, at_, cells, _, ho, _⟩ := h.rings i hi
  have h1 := ho.len1
  have h2 := ho.n2
  omega
theorem StIn.lost_le {v : Value} {q : Own} {gs : List Nat} {os : List Own} (h : StIn n v q gs m L G os) {i : Nat} (hi : i < m) : G i ≤ 1000000 := by
  obtain ⟨c, at_, cells, _, ho, _⟩ := h.rings i hi
  exact ho.lost1
theorem StIn.sumL_le {v : Value} {q : Own} {gs : List Nat} {os : List Own} (h : StIn n v q gs m L G os) : ∀ k, k ≤ m → sumL L k ≤ 4096 * k
  | 0, _ => Nat.le_refl _
  | k + 1, hk => by have := h.sumL_le k (by omega); have := h.len_le (i := k) (by omega); rw [sumL]; omega
theorem StIn.sumG_le {v : Value} {q : Own} {gs : List Nat} {os : List Own} (h : StIn n v q gs m L G os) : ∀ k, k ≤ m → sumG G k ≤ 1000000 * k
  | 0, _ => Nat.le_refl _
  | k + 1, hk => by have := h.sumG_le k (by omega); have := h.lost_le (i := k) (by omega); rw [sumG]; omega
set_option maxHeartbeats 1600000 in
theorem sum_Len (hr : StAt g seed n m L G r) (h : Owned w0 w (r ++ F)) : Calls Try.prog 29 #[.pointer (some ⟨g, 0, none⟩), .func (.func 31) #[] #[]] w fun e w' => e = .returned (.int .i64 (sumL L m : Nat)) ∧ w = w' := by
  obtain ⟨v, q, gs, os, rfl, hI⟩ := hr
  have m2 := hI.m2
  have c0 := st_c0 h
  obtain ⟨A, c, rfl, hcell⟩ := row_reads (w0 := w0) hI.row
  have HCELL := Lib.hid (show 0 < m → ∃ b, A = some ⟨b, 0, none⟩ ∧ ∀ i, i < m → w.cell? ⟨b, i, none⟩ = some (ifc (gs.getD i 0)) from fun h0 => by
    obtain ⟨b, e, hc⟩ := hcell h0
    exact ⟨b, e, fun i hi => hc _ _ (st_q h) i hi⟩)
  have HS := Lib.hid (show ∀ i, i < m → Calls Try.prog 31 #[ifc (gs.getD i 0)] w (fun e w' => e = .returned (.int .i64 (((L i).length : Nat) : Int)) ∧ w = w') from fun i hi => len1_calls (hI.rings i hi) (st_out (by rw [hI.ol]; exact hi) h))
  have HB := Lib.hid (hI.sumL_le)
  have HSUC := Lib.hid (show ∀ k, sumL L (k + 1) = sumL L k + (L k).length from fun k => rfl)
  have HVL := Lib.hid (show ∀ i, i < m → (L i).length ≤ 1000000 from fun i hi => by have := hI.len_le hi; omega)
  have H0 := Lib.hid (show sumL L 0 = 0 from rfl)
  clear h hI hcell
  generalize hf : sumL L = f at *
  clear hf
  go_enter Try.func29, Try.ntmps29
  go_wp2_with fail
  go_loop [5, 7, 13] (fun x5 _ x13 => ∃ i : Nat, i ≤ m ∧ x13 = .int .i64 i ∧ x5 = .int .i64 (f i : Nat)) (fun _ _ x13 => m - (intOf x13).toNat)
  case atStart => exact ⟨0, Nat.zero_le _, rfl, by rw [H0.out]; rfl⟩
  case round =>
    obtain ⟨i, hi, rfl, rfl⟩ := hrel
    by_cases hlt : i < m
    · obtain ⟨b, rfl, hc⟩ := HCELL.out (by omega)
      have cx := hc i hlt
      have cs := HS.out i hlt
      have hb := HB.out i (by omega)
      have hsu := HSUC.out i
      have hvl := HVL.out i hlt
      have SU := Lib.hid hsu
      clear hc hsu
      generalize gs.getD i 0 = gi at *
      generalize (L i).length = li at *
      generalize f i = fi at *
      unfold ifc at cx
      unfold ifc at cs
      go_wp2_with fail
      go_at_call 31
      refine (cs).mono ?_
      rintro e w1 ⟨rfl, rfl⟩
      go_wp2_with fail
      go_round
      case rel => exact ⟨i + 1, by omega, by go_num, by rw [SU.out]; go_num⟩
      case measure => simp [intOf]; omega
    · obtain rfl : i = m := by omega
      go_wp2_with fail
      go_ret
      exact ⟨rfl, rfl⟩
set_option maxHeartbeats 400000 in
theorem st_Len (hr : StAt g seed n m L G r) (h : Owned w0 w (r ++ F)) : Calls Try.prog 15 #[.pointer (some ⟨g, 0, none⟩)] w fun e w' => e = .returned (.int .i64 (sumL L m : Nat)) ∧ w = w' := by
  have c := sum_Len hr h
  clear h hr
  generalize sumL L m = x at *
  go_enter Try.func15, Try.ntmps15
  go_wp2_with fail
  go_at_call 29
  refine (c).mono ?_
  rintro e w1 ⟨rfl, rfl⟩
  go_wp2_with fail
  go_ret
  exact ⟨rfl, rfl⟩
set_option maxHeartbeats 1600000 in
theorem sum_Lost (hr : StAt g seed n m L G r) (h : Owned w0 w (r ++ F)) : Calls Try.prog 29 #[.pointer (some ⟨g, 0, none⟩), .func (.func 30) #[] #[]] w fun e w' => e = .returned (.int .i64 (sumG G m : Nat)) ∧ w = w' := by
  obtain ⟨v, q, gs, os, rfl, hI⟩ := hr
  have m2 := hI.m2
  have c0 := st_c0 h
  obtain ⟨A, c, rfl, hcell⟩ := row_reads (w0 := w0) hI.row
  have HCELL := Lib.hid (show 0 < m → ∃ b, A = some ⟨b, 0, none⟩ ∧ ∀ i, i < m → w.cell? ⟨b, i, none⟩ = some (ifc (gs.getD i 0)) from fun h0 => by
    obtain ⟨b, e, hc⟩ := hcell h0
    exact ⟨b, e, fun i hi => hc _ _ (st_q h) i hi⟩)
  have HS := Lib.hid (show ∀ i, i < m → Calls Try.prog 30 #[ifc (gs.getD i 0)] w (fun e w' => e = .returned (.int .i64 ((G i : Nat) : Int)) ∧ w = w') from fun i hi => lost1_calls (hI.rings i hi) (st_out (by rw [hI.ol]; exact hi) h))
  have HB := Lib.hid (hI.sumG_le)
  have HSUC := Lib.hid (show ∀ k, sumG G (k + 1) = sumG G k + G k from fun k => rfl)
  have HVL := Lib.hid (show ∀ i, i < m → G i ≤ 1000000 from fun i hi => by have := hI.lost_le hi; omega)
  have H0 := Lib.hid (show sumG G 0 = 0 from rfl)
  clear h hI hcell
  generalize hf : sumG G = f at *
  clear hf
  go_enter Try.func29, Try.ntmps29
  go_wp2_with fail
  go_loop [5, 7, 13] (fun x5 _ x13 => ∃ i : Nat, i ≤ m ∧ x13 = .int .i64 i ∧ x5 = .int .i64 (f i : Nat)) (fun _ _ x13 => m - (intOf x13).toNat)
  case atStart => exact ⟨0, Nat.zero_le _, rfl, by rw [H0.out]; rfl⟩
  case round =>
    obtain ⟨i, hi, rfl, rfl⟩ := hrel
    by_cases hlt : i < m
    · obtain ⟨b, rfl, hc⟩ := HCELL.out (by omega)
      have cx := hc i hlt
      have cs := HS.out i hlt
      have hb := HB.out i (by omega)
      have hsu := HSUC.out i
      have hvl := HVL.out i hlt
      have SU := Lib.hid hsu
      clear hc hsu
      generalize gs.getD i 0 = gi at *
      generalize G i = li at *
      generalize f i = fi at *
      unfold ifc at cx
      unfold ifc at cs
      go_wp2_with fail
      go_at_call 30
      refine (cs).mono ?_
      rintro e w1 ⟨rfl, rfl⟩
      go_wp2_with fail
      go_round
      case rel => exact ⟨i + 1, by omega, by go_num, by rw [SU.out]; go_num⟩
      case measure => simp [intOf]; omega
    · obtain rfl : i = m := by omega
      go_wp2_with fail
      go_ret
      exact ⟨rfl, rfl⟩
set_option maxHeartbeats 400000 in
theorem st_Lost (hr : StAt g seed n m L G r) (h : Owned w0 w (r ++ F)) : Calls Try.prog 14 #[.pointer (some ⟨g, 0, none⟩)] w fun e w' => e = .returned (.int .i64 (sumG G m : Nat)) ∧ w = w' := by
  have c := sum_Lost hr h
  clear h hr
  generalize sumG G m = x at *
  go_enter Try.func14, Try.ntmps14
  go_wp2_with fail
  go_at_call 29
  refine (c).mono ?_
  rintro e w1 ⟨rfl, rfl⟩
  go_wp2_with fail
  go_ret
  exact ⟨rfl, rfl⟩
set_option maxHeartbeats 1600000 in
theorem st_place (thread : Int) (hr : StAt g seed n m L G r) (h : Owned w0 w (r ++ F)) : Calls Try.prog 9 #[.pointer (some ⟨g, 0, none⟩), .int .i64 thread] w fun e w' => e = .returned (.int .i64 (plT seed thread m : Nat)) ∧ Below w.heap.size w w' := by
  obtain ⟨v, q, gs, os, rfl, hI⟩ := hr
  have m1 := hI.m1
  have m2 := hI.m2
  have c0 := st_c0 h
  have c1 := cell_regrown (st_c1 h)
  obtain ⟨A, c, rfl, _⟩ := row_reads (w0 := w0) hI.row
  replace c0 := cell_regrown c0
  have hl := mixN_lt (wd thread) (wd seed)
  have cm : ∀ w, Calls Try.prog 28 #[.int .i64 seed, .int .i64 thread] w fun e w' => e = .returned (.int .u64 (mixN (wd thread) (wd seed))) ∧ Below w.heap.size w w' := fun w => (mix_calls seed thread w).mono (by rintro e w' ⟨rfl, rfl⟩; exact ⟨rfl, Below.refl _ _⟩)
  unfold plT
  generalize mixN (wd thread) (wd seed) = hh at *
  have ci : ∀ w, Calls Try.prog 27 #[.int .u64 hh, .int .i64 0, .int .i64 (m : Int)] w fun e w' => e = .returned (.int .i64 (idx hh 0 m : Nat)) ∧ Below w.heap.size w w' := fun w => (index_calls hh hl 0 m (by omega) w).mono (by rintro e w' ⟨rfl, rfl⟩; exact ⟨rfl, Below.refl _ _⟩)
  clear h hl hI
  generalize idx hh 0 m = z at *
  go_enter Try.func9, Try.ntmps9
  go_wp2_with fail
  refine wp_region_quiet_below (by kernel_rfl) (by kernel_rfl) ?_
  repeat (first | go_big_quiet_step ((first | (go_at_call 28; with_reducible exact Calls.regrown_of (cm _)) | (go_at_call 27; with_reducible exact Calls.regrown_of (ci _)))) | quiet_step ((first | (go_at_call 28; with_reducible exact Calls.regrown_of (cm _)) | (go_at_call 27; with_reducible exact Calls.regrown_of (ci _)))))
  refine wpQuiet_nil ?_
  intro _ hw'
  obtain ⟨⟨dq, osq⟩, hw''⟩ := hw'
  subst hw''
  go_wp2_with fail
  go_ret
  exact ⟨rfl, below_regrown _ dq osq⟩
end
end Go.Proofs.Ytjhoipbffadcjaa
