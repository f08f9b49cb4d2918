/- The document's stripes (pantryref13): what they tell. -/
import Derived.Test.YtjhoipbffadcjaaRefStr
namespace Go.Proofs.Ytjhoipbffadcjaa
open Go.RowKit Go.Sep
section
variable {g n m : Nat} {seed : Int} {L : Nat → List Int} {G : Nat → Nat} {w0 w : World} {F r : Own}
set_option maxHeartbeats 1600000 in
theorem rst_Len (hLb : ∀ i, i < m → (L i).length ≤ 4096 ∧ G i ≤ 999999) (hr : RsAt g seed n m L G r) (h : Owned w0 w (r ++ F)) : Calls Try.prog 22 #[.pointer (some ⟨g, 0, none⟩)] w fun e w' => e = .returned (.int .i64 (sumL L m : Nat)) ∧ w = w' := by
  obtain ⟨v, q, gs, os, rfl, hI⟩ := hr
  have m2 := hI.m2
  have c0 := rst_c0 h
  obtain ⟨A, c, rfl, hcell⟩ := rrow_reads (w0 := w0) hI.row
  have HCELL := Lib.hid (show 0 < m → ∃ b, A = some ⟨b, 0, none⟩ ∧ ∀ i, i < m → w.cell? ⟨b, i, none⟩ = some (rptr (gs.getD i 0)) from fun h0 => by
    obtain ⟨b, e, hc⟩ := hcell h0
    exact ⟨b, e, fun i hi => hc _ _ (rst_q h) i hi⟩)
  have HS := Lib.hid (show ∀ i, i < m → ∃ A c, w.cell? ⟨gs.getD i 0, 1, none⟩ = some (.slice A (L i).length c) ∧ w.cell? ⟨gs.getD i 0, 2, none⟩ = some (.int .i64 (G i)) from fun i hi => by
    obtain ⟨A, c, _, h1, h2⟩ := ref_reads (hI.rings i hi) (rst_out (by rw [hI.ol]; exact hi) h)
    exact ⟨A, c, h1, h2⟩)
  have HB := Lib.hid (show ∀ k, k ≤ m → sumL L k ≤ 1000000 * k from fun k => by
    induction k with
    | zero => intro _; exact Nat.le_refl _
    | succ k ih =>
      intro hk
      have h1 := ih (by omega)
      have h2 := hLb k (by omega)
      rw [sumL]
      omega)
  have HSUC := Lib.hid (show ∀ k, sumL L (k + 1) = sumL L k + (L k).length from fun k => rfl)
  have HVL := Lib.hid (show ∀ i, i < m → (L i).length ≤ 1000000 from fun i hi => by have := hLb i hi; omega)
  have H0 := Lib.hid (show sumL L 0 = 0 from rfl)
  clear h hI hcell hLb
  generalize hf : sumL L = f at *
  clear hf
  go_enter Try.func22, Try.ntmps22
  go_wp2_with fail
  go_loop [3, 4] (fun x3 x4 => ∃ i : Nat, i ≤ m ∧ x4 = .int .i64 i ∧ x3 = .int .i64 (f i : Nat)) (fun _ x4 => m - (intOf x4).toNat)
  case atStart => exact ⟨0, Nat.zero_le _, rfl, by rw [H0.out]; rfl⟩
  case round =>
    obtain ⟨i, hi, rfl, rfl⟩ := hrel
    by_cases hlt : i < m
    · obtain ⟨b, rfl, hc⟩ := HCELL.out (by omega)
      have cx := hc i hlt
      obtain ⟨Ai, ci, e1, e2⟩ := HS.out i hlt
      have hb := HB.out i (by omega)
      have hsu := HSUC.out i
      have hvl := HVL.out i hlt
      have SU := Lib.hid hsu
      clear hc hsu
      generalize gs.getD i 0 = gi at *
      generalize (L i).length = li at *
      generalize G i = gl at *
      generalize f i = fi at *
      unfold rptr at cx
      go_wp2_with fail
      go_round
      case rel => exact ⟨i + 1, by omega, by go_num, by rw [SU.out]; go_num⟩
      case measure => simp [intOf]; omega
    · obtain rfl : i = m := by omega
      go_wp2_with fail
      go_ret
      exact ⟨rfl, rfl⟩
set_option maxHeartbeats 1600000 in
theorem rst_Lost (hLb : ∀ i, i < m → (L i).length ≤ 4096 ∧ G i ≤ 999999) (hr : RsAt g seed n m L G r) (h : Owned w0 w (r ++ F)) : Calls Try.prog 23 #[.pointer (some ⟨g, 0, none⟩)] w fun e w' => e = .returned (.int .i64 (sumG G m : Nat)) ∧ w = w' := by
  obtain ⟨v, q, gs, os, rfl, hI⟩ := hr
  have m2 := hI.m2
  have c0 := rst_c0 h
  obtain ⟨A, c, rfl, hcell⟩ := rrow_reads (w0 := w0) hI.row
  have HCELL := Lib.hid (show 0 < m → ∃ b, A = some ⟨b, 0, none⟩ ∧ ∀ i, i < m → w.cell? ⟨b, i, none⟩ = some (rptr (gs.getD i 0)) from fun h0 => by
    obtain ⟨b, e, hc⟩ := hcell h0
    exact ⟨b, e, fun i hi => hc _ _ (rst_q h) i hi⟩)
  have HS := Lib.hid (show ∀ i, i < m → ∃ A c, w.cell? ⟨gs.getD i 0, 1, none⟩ = some (.slice A (L i).length c) ∧ w.cell? ⟨gs.getD i 0, 2, none⟩ = some (.int .i64 (G i)) from fun i hi => by
    obtain ⟨A, c, _, h1, h2⟩ := ref_reads (hI.rings i hi) (rst_out (by rw [hI.ol]; exact hi) h)
    exact ⟨A, c, h1, h2⟩)
  have HB := Lib.hid (show ∀ k, k ≤ m → sumG G k ≤ 1000000 * k from fun k => by
    induction k with
    | zero => intro _; exact Nat.le_refl _
    | succ k ih =>
      intro hk
      have h1 := ih (by omega)
      have h2 := hLb k (by omega)
      rw [sumG]
      omega)
  have HSUC := Lib.hid (show ∀ k, sumG G (k + 1) = sumG G k + G k from fun k => rfl)
  have HVL := Lib.hid (show ∀ i, i < m → G i ≤ 1000000 from fun i hi => by have := hLb i hi; omega)
  have H0 := Lib.hid (show sumG G 0 = 0 from rfl)
  clear h hI hcell hLb
  generalize hf : sumG G = f at *
  clear hf
  go_enter Try.func23, Try.ntmps23
  go_wp2_with fail
  go_loop [3, 4] (fun x3 x4 => ∃ i : Nat, i ≤ m ∧ x4 = .int .i64 i ∧ x3 = .int .i64 (f i : Nat)) (fun _ x4 => m - (intOf x4).toNat)
  case atStart => exact ⟨0, Nat.zero_le _, rfl, by rw [H0.out]; rfl⟩
  case round =>
    obtain ⟨i, hi, rfl, rfl⟩ := hrel
    by_cases hlt : i < m
    · obtain ⟨b, rfl, hc⟩ := HCELL.out (by omega)
      have cx := hc i hlt
      obtain ⟨Ai, ci, e1, e2⟩ := HS.out i hlt
      have hb := HB.out i (by omega)
      have hsu := HSUC.out i
      have hvl := HVL.out i hlt
      have SU := Lib.hid hsu
      clear hc hsu
      generalize gs.getD i 0 = gi at *
      generalize (L i).length = li at *
      generalize G i = gl at *
      generalize f i = fi at *
      unfold rptr at cx
      go_wp2_with fail
      go_round
      case rel => exact ⟨i + 1, by omega, by go_num, by rw [SU.out]; go_num⟩
      case measure => simp [intOf]; omega
    · obtain rfl : i = m := by omega
      go_wp2_with fail
      go_ret
      exact ⟨rfl, rfl⟩
set_option maxHeartbeats 1600000 in
theorem rst_place (thread : Int) (hr : RsAt g seed n m L G r) (h : Owned w0 w (r ++ F)) : Calls Try.prog 21 #[.pointer (some ⟨g, 0, none⟩), .int .i64 thread] w fun e w' => e = .returned (.int .i64 (plT seed thread m : Nat)) ∧ Below w.heap.size w w' := by
  obtain ⟨v, q, gs, os, rfl, hI⟩ := hr
  have m1 := hI.m1
  have m2 := hI.m2
  have c0 := rst_c0 h
  have c1 := cell_regrown (rst_c1 h)
  obtain ⟨A, c, rfl, _⟩ := rrow_reads (w0 := w0) hI.row
  replace c0 := cell_regrown c0
  have hl := mixN_lt (wd thread) (wd seed)
  have cm : ∀ w, Calls Try.prog 38 #[.int .i64 seed, .int .i64 thread] w fun e w' => e = .returned (.int .u64 (mixN (wd thread) (wd seed))) ∧ Below w.heap.size w w' := fun w => (rmix_calls seed thread w).mono (by rintro e w' ⟨rfl, rfl⟩; exact ⟨rfl, Below.refl _ _⟩)
  unfold plT
  generalize mixN (wd thread) (wd seed) = hh at *
  have ci : ∀ w, Calls Try.prog 37 #[.int .u64 hh, .int .i64 0, .int .i64 (m : Int)] w fun e w' => e = .returned (.int .i64 (idx hh 0 m : Nat)) ∧ Below w.heap.size w w' := fun w => (rindex_calls hh hl 0 m (by omega) w).mono (by rintro e w' ⟨rfl, rfl⟩; exact ⟨rfl, Below.refl _ _⟩)
  clear h hl hI
  generalize idx hh 0 m = z at *
  go_enter Try.func21, Try.ntmps21
  go_wp2_with fail
  refine wp_region_quiet_below (by kernel_rfl) (by kernel_rfl) ?_
  repeat (first | go_big_quiet_step ((first | (go_at_call 38; with_reducible exact Calls.regrown_of (cm _)) | (go_at_call 37; with_reducible exact Calls.regrown_of (ci _)))) | quiet_step ((first | (go_at_call 38; with_reducible exact Calls.regrown_of (cm _)) | (go_at_call 37; with_reducible exact Calls.regrown_of (ci _)))))
  refine wpQuiet_nil ?_
  intro _ hw'
  obtain ⟨⟨dq, osq⟩, hw''⟩ := hw'
  subst hw''
  go_wp2_with fail
  go_ret
  exact ⟨rfl, below_regrown _ dq osq⟩
def RLensRel (w0 : World) (X : Own) (L : Nat → List Int) (i : Nat) (x : Value) (w : World) : Prop := ∃ q, Row 3 1 x i (ints (lensTo L i)) q ∧ Owned w0 w (q ++ X)
set_option maxHeartbeats 1600000 in
theorem rst_Lens (hr : RsAt g seed n m L G r) (h : Owned w0 w (r ++ F)) : Calls Try.prog 24 #[.pointer (some ⟨g, 0, none⟩)] w fun e w' => ∃ v q, e = .returned v ∧ Row 3 1 v m (ints (lensTo L m)) q ∧ Owned w0 w' (q ++ (r ++ F)) := by
  obtain ⟨v, q, gs, os, rfl, hI⟩ := hr
  have m2 := hI.m2
  obtain ⟨A, c, rfl, hcell⟩ := rrow_reads (w0 := w0) hI.row
  have HCELL := Lib.hid hcell
  have HI := Lib.hid hI
  have c00 := rst_c0 h
  have HR := Lib.hid (show RLensRel w0 (RsB g seed (.slice A m c) q os ++ F) L 0 (.slice none 0 0) w from ⟨[], Row.nil _ _, h⟩)
  clear h hI hcell c00
  go_enter Try.func24, Try.ntmps24
  go_wp2_with fail
  go_loopw [3, 4] (fun x3 x4 wr => ∃ i : Nat, i ≤ m ∧ x4 = .int .i64 i ∧ Hid (RLensRel w0 (RsB g seed (.slice A m c) q os ++ F) L i x3 wr)) (fun _ x4 _ => m - (intOf x4).toNat)
  case atStart => exact ⟨0, Nat.zero_le _, rfl, HR⟩
  case round =>
    clear HR
    obtain ⟨i, hi, rfl, hrel⟩ := hrel
    obtain ⟨q1, hrow, hO⟩ := hrel.out
    clear hrel
    obtain ⟨A1, c1, rfl⟩ := hrow.slice
    have c0 := rst_c0 (Owned.drop_ hO)
    by_cases hlt : i < m
    · obtain ⟨b, rfl, hc⟩ := HCELL.out (by omega)
      have cx := hc _ _ (rst_q (Owned.drop_ hO)) i hlt
      obtain ⟨Ai, ci, _, e1, _⟩ := ref_reads (HI.out.rings i hlt) (rst_out (by rw [HI.out.ol]; exact hlt) (Owned.drop_ hO))
      have LS := Lib.hid (lensTo_succ L i)
      have hm1 : i + 1 ≤ maxLen := by unfold maxLen; omega
      have hm2 : (i + 1) * 8 ≤ 140737488355328 := by omega
      clear hc HCELL
      generalize gs.getD i 0 = gi at *
      generalize (L i).length = li at *
      unfold rptr at cx
      go_wp2_with (at_builtin; refine append_one rfl (.tmp 14) (.tmp 26) 26 rfl 3 (.int .i64 0) 8 Try.underlying26 infoI rfl _ i _ q1 _ _ rfl hrow hO rfl rfl hm1 hm2 ?_)
      intro v2 q2 w4 hrow2 hO4
      have HO4 := Lib.hid (show RLensRel w0 (RsB g seed (.slice (some ⟨b, 0, none⟩) m c) q os ++ F) L (i + 1) v2 w4 from ⟨q2, by rw [LS.out, ints_append]; exact hrow2, hO4⟩)
      clear hrow hO hrow2 hO4
      go_wp2_with fail
      go_roundw
      case rel => exact ⟨i + 1, by omega, by go_num, HO4⟩
      case measure => simp [intOf]; omega
    · obtain rfl : i = m := by omega
      have HO := Lib.hid (And.intro hrow hO)
      clear hrow hO
      go_wp2_with fail
      go_ret
      exact ⟨_, q1, rfl, HO.out.1, HO.out.2⟩
end
end Go.Proofs.Ytjhoipbffadcjaa
