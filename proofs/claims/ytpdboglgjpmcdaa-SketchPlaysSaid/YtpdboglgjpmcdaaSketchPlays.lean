/- The statements of layer 3: SketchPlays: are both alike? -/
import Derived.Test.YtpdboglgjpmcdaaRefSk2
import Derived.Test.YtpdboglgjpmcdaaIntsR
import Derived.Test.YtpdboglgjpmcdaaSketch11
namespace Go.Proofs.Ytpdboglgjpmcdaa
open Go.RowKit NibPure Go.Sep
theorem rs_reads {g W N : Nat} {seed : Int} {rb : Nat → Nat} {S : Nat → Nat → Nat} {w0 w : World} {F : Own} (hW : W ≤ 65536) (h : Owned w0 w (rsB g seed W N rb S ++ F)) {k : Nat} (hk : k < 4) : Reads w (.slice (some ⟨rb k, 0, none⟩) W W) (rowN S k W) := by
  refine ⟨by rw [rowN_len]; omega, some ⟨rb k, 0, none⟩, W, by rw [rowN_len], fun _ => ⟨rb k, 0, rfl, fun i hi => ?_⟩⟩
  rw [rowN_len] at hi
  rw [Nat.zero_add, rowN_get _ _ _ _ hi]
  exact rs_cell h hk hi
section
variable {g g2 n N : Nat} {seed : Int} {bs : Nat → Nat} {S : Nat → Nat → Nat} {w0 w : World} {F r : Own}
set_option maxHeartbeats 3200000 in
set_option maxRecDepth 100000 in
theorem same_calls (hr : SkAt g seed n N S r) (h : Owned w0 w (r ++ (rsB g2 seed (16 * n) N bs S ++ F))) :
    Calls Try.prog 16 #[.pointer (some ⟨g, 0, none⟩), .pointer (some ⟨g2, 0, none⟩)] w fun e w' => e = .returned (.bool true) ∧ Owned w0 w' (r ++ (rsB g2 seed (16 * n) N bs S ++ F)) := by
  have hn := hr.n_le
  have HN := Lib.hid hn
  clear hn
  obtain ⟨W, hW⟩ : ∃ W, 16 * n = W := ⟨_, rfl⟩
  have hWi : ((16 * n : Nat) : Int) = (W : Int) := by rw [hW]
  have cw := fun d os => (s_width hWi hr (h.under (below_regrown w d os))).mono (R' := fun e w' => e = .returned (.int .i64 (W : Int)) ∧ Below (Go.Sort.grow (redrawn w d) os).heap.size (Go.Sort.grow (redrawn w d) os) w') (by rintro e w' ⟨rfl, rfl⟩; exact ⟨rfl, Below.refl _ _⟩)
  have cs := fun d os => (s_samples hr (h.under (below_regrown w d os))).mono (R' := fun e w' => e = .returned (.int .i64 (N : Int)) ∧ Below (Go.Sort.grow (redrawn w d) os).heap.size (Go.Sort.grow (redrawn w d) os) w') (by rintro e w' ⟨rfl, rfl⟩; exact ⟨rfl, Below.refl _ _⟩)
  have c0 := cell_regrown (rs_c0 h.comm)
  rw [hW] at c0
  have c2 := cell_regrown (rs_c2 h.comm)
  have hrow := fun (k : Nat) (hk : k < 4) (w : World) (h : Owned w0 w (r ++ (rsB g2 seed (16 * n) N bs S ++ F))) => s_row k rfl hk hr h
  have HROW := Lib.hid hrow
  have HW := Lib.hid hW
  have HO := Lib.hid h
  clear h hrow hW hWi
  go_enter Try.func16, Try.ntmps16
  go_wp2_with fail
  refine wp_region_quiet_below (by kernel_rfl) (by kernel_rfl) ?_
  repeat (first | go_big_quiet_step ((first | (go_at_call 19; with_reducible exact Calls.regrown_of (cw _ _)) | (go_at_call 18; with_reducible exact Calls.regrown_of (cs _ _)))) | quiet_step ((first | (go_at_call 19; with_reducible exact Calls.regrown_of (cw _ _)) | (go_at_call 18; with_reducible exact Calls.regrown_of (cs _ _)))))
  refine wpQuiet_nil ?_
  intro _ hw'
  obtain ⟨⟨dq, osq⟩, hw''⟩ := hw'
  subst hw''
  have HO2 := Lib.hid (HO.out.under (below_regrown _ dq osq))
  generalize (Go.Sort.grow (redrawn w dq) osq) = w4 at *
  clear cw cs c0 c2 HO
  go_wp2_with fail
  go_loopw [5] (fun x5 wr => ∃ k : Nat, k ≤ 4 ∧ x5 = .int .i64 k ∧ Hid (Owned w0 wr (r ++ (rsB g2 seed (16 * n) N bs S ++ F)))) (fun x5 _ => 4 - (intOf x5).toNat)
  case atStart => exact ⟨0, by omega, rfl, HO2⟩
  case round =>
    clear HO2
    obtain ⟨k, hk, rfl, hrel⟩ := hrel
    by_cases hlt : k < 4
    · have cr := rs_row hrel.out.comm k hlt
      rw [HW.out] at cr
      have k5 : (k : Int) < 4 := by omega
      have k6 : (0 : Int) ≤ (k : Int) := by omega
      go_wp2_with fail
      go_region_with (first
        | (go_at_call 17; (with_reducible refine (HROW.out k hlt _ hrel.out.drew).mono ?_); rintro e w5 ⟨v, q, rfl, hrow, hO5⟩; have HROW5 := Lib.hid hrow; clear hrow; have HO5 := Lib.hid hO5; clear hO5; have cr5 := rs_row (Owned.third (a := q) (b := r) (c := rsB g2 seed (16 * n) N bs S) HO5.out) k hlt; rw [HW.out] at cr5)
        | (go_at_call 27; (with_reducible refine (ints_b (la := rowN S k (16 * n)) (reads_of_row (by rw [rowN_len]; exact HROW5.out) (by rw [rowN_len]; have := HN.out; omega) HO5.out) (by rw [← HW.out]; exact rs_reads (by have := HN.out; omega) (Owned.third (a := q) (b := r) (c := rsB g2 seed (16 * n) N bs S) HO5.out) hlt)).mono ?_); rintro e w6 ⟨rfl, hb6⟩; have HO6 := Lib.hid (Owned.drop_ (HO5.out.under hb6)); clear hb6))
      all_goals
        go_wp2_with fail
        go_roundw
        case rel => exact ⟨k + 1, by omega, by go_num, HO6⟩
        case measure => simp [intOf]; omega
    · obtain rfl : k = 4 := by omega
      go_wp2_with fail
      go_ret
      exact ⟨rfl, hrel.out⟩
end
end Go.Proofs.Ytpdboglgjpmcdaa
