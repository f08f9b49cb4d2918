/- Contracts of the document's door (pantryref04) over own memory. -/
import Derived.Test.YtachbhgfcdnhdaaDoorSmall
import Derived.Test.YtachbhgfcdnhdaaMixR
import Derived.Lib.QuietBelow
namespace Go.Proofs.Ytachbhgfcdnhdaa
open Go.RowKit Go.Sep DoorPure
def bitsV (B : List Bool) : List Value := B.map Value.bool
theorem bitsV_get (B : List Bool) (i : Nat) (h : i < B.length) : (bitsV B).toArray[i]? = some (.bool (B.getD i false)) := by
  simp [bitsV, List.getD, h]
theorem bitsV_set (B : List Bool) (i : Nat) (v : Bool) : (bitsV B).toArray.setIfInBounds i (.bool v) = (bitsV (B.set i v)).toArray := by simp [bitsV, List.map_set]
/-- the document's door's own block and its bits' -/
def rdB (g b : Nat) (seed : Int) (B : List Bool) : Own :=
  [(g, .cells #[.int .i64 seed, .slice (some ⟨b, 0, none⟩) B.length B.length] 69 (0, 0)), (b, .cells (bitsV B).toArray 4 (0, 0))]
theorem owned_bit {g b : Nat} {seed : Int} {B : List Bool} {w0 w : World} {F : Own} (h : Owned w0 w (rdB g b seed B ++ F)) (q : Nat) (v : Bool) : Owned w0 (w.setCell ⟨b, q, none⟩ (.bool v)) (rdB g b seed (B.set q v) ++ F) := by
  have k := Owned.swap (Owned.set (Owned.swap h) q (.bool v))
  rw [bitsV_set] at k
  unfold rdB
  rw [List.length_set]
  exact k
section
variable {g b : Nat} {seed : Int} {B : List Bool} {w0 w : World} {F : Own}
theorem rd_c0 (h : Owned w0 w (rdB g b seed B ++ F)) : w.cell? ⟨g, 0, none⟩ = some (.int .i64 seed) := (Owned.cell h 0).trans rfl
theorem rd_c1 (h : Owned w0 w (rdB g b seed B ++ F)) : w.cell? ⟨g, 1, none⟩ = some (.slice (some ⟨b, 0, none⟩) B.length B.length) := (Owned.cell h 1).trans rfl
theorem rd_bit (h : Owned w0 w (rdB g b seed B ++ F)) {i : Nat} (hi : i < B.length) : w.cell? ⟨b, i, none⟩ = some (.bool (B.getD i false)) := (Owned.cell h.swap i).trans (bitsV_get B i hi)
theorem rd_free (h : Owned w0 w (rdB g b seed B ++ F)) (i : Nat) : w.frozen? ⟨b, i, none⟩ = false := Owned.frozen h.swap i
set_option maxHeartbeats 400000 in
theorem rat (key : Int) (row : Nat) (hl1 : B.length ≤ 1000000) (h : Owned w0 w (rdB g b seed B ++ F)) :
    Calls Try.prog 38 #[.pointer (some ⟨g, 0, none⟩), .int .i64 key, .int .i64 (row : Int)] w fun e w' => e = .returned (.int .i64 (plc seed key row B.length : Nat)) ∧ Below w.heap.size w w' := by
  have c0 := cell_regrown (rd_c0 h)
  have c1 := cell_regrown (rd_c1 h)
  have hl := mixN_lt (wd key) (wd seed)
  have cm : ∀ w, Calls Try.prog 50 #[.int .i64 seed, .int .i64 key] w fun e w' => e = .returned (.int .u64 (mixN (wd key) (wd seed))) ∧ Below w.heap.size w w' := fun w => (rmix_calls seed key w).mono (by rintro e w' ⟨rfl, rfl⟩; exact ⟨rfl, Below.refl _ _⟩)
  unfold plc
  generalize mixN (wd key) (wd seed) = hh at *
  have ci : ∀ w, Calls Try.prog 49 #[.int .u64 hh, .int .i64 (row : Int), .int .i64 (B.length : Int)] w fun e w' => e = .returned (.int .i64 (idx hh row B.length : Nat)) ∧ Below w.heap.size w w' := fun w => (rindex_calls hh hl row B.length (by omega) w).mono (by rintro e w' ⟨rfl, rfl⟩; exact ⟨rfl, Below.refl _ _⟩)
  clear h hl
  generalize ((idx hh row B.length : Nat) : Int) = r at *
  generalize (row : Int) = rw_ at *
  go_enter Try.func38, Try.ntmps38
  go_wp2_with fail
  refine wp_region_quiet_below (by kernel_rfl) (by kernel_rfl) ?_
  repeat (first | go_big_quiet_step ((first | (go_at_call 50; with_reducible exact Calls.regrown_of (cm _)) | (go_at_call 49; with_reducible exact Calls.regrown_of (ci _)))) | quiet_step ((first | (go_at_call 50; with_reducible exact Calls.regrown_of (cm _)) | (go_at_call 49; with_reducible exact Calls.regrown_of (ci _)))))
  refine wpQuiet_nil ?_
  intro _ hw'
  obtain ⟨⟨dq, osq⟩, hw''⟩ := hw'
  subst hw''
  go_wp2_with fail
  go_ret
  exact ⟨rfl, below_regrown _ dq osq⟩
theorem rat0 (key : Int) (hl1 : B.length ≤ 1000000) (h : Owned w0 w (rdB g b seed B ++ F)) :
    Calls Try.prog 38 #[.pointer (some ⟨g, 0, none⟩), .int .i64 key, .int .i64 0] w fun e w' => e = .returned (.int .i64 (plc seed key 0 B.length : Nat)) ∧ Below w.heap.size w w' := rat key 0 hl1 h
theorem rat1 (key : Int) (hl1 : B.length ≤ 1000000) (h : Owned w0 w (rdB g b seed B ++ F)) :
    Calls Try.prog 38 #[.pointer (some ⟨g, 0, none⟩), .int .i64 key, .int .i64 1] w fun e w' => e = .returned (.int .i64 (plc seed key 1 B.length : Nat)) ∧ Below w.heap.size w w' := rat key 1 hl1 h
set_option maxHeartbeats 800000 in
theorem rhas (key : Int) (hl0 : 1 ≤ B.length) (hl1 : B.length ≤ 1000000) (h : Owned w0 w (rdB g b seed B ++ F)) :
    Calls Try.prog 28 #[.pointer (some ⟨g, 0, none⟩), .int .i64 key] w fun e w' => e = .returned (.bool (hasB seed key B)) ∧ Below w.heap.size w w' := by
  have c1 := cell_regrown (rd_c1 h)
  have a0 := fun d os => rat0 key hl1 (h.under (below_regrown w d os))
  have a1 := fun d os => rat1 key hl1 (h.under (below_regrown w d os))
  have p0 := plc_lt seed key 0 hl0
  have p1 := plc_lt seed key 1 hl0
  have b0 := cell_regrown (rd_bit h p0)
  have b1 := cell_regrown (rd_bit h p1)
  unfold hasB
  generalize plc seed key 0 B.length = i at *
  generalize plc seed key 1 B.length = j at *
  generalize B.getD i false = x at *
  generalize B.getD j false = y at *
  generalize B.length = n at *
  have k0 : ((i : Nat) : Int) < (n : Int) := by omega
  have k1 : ((j : Nat) : Int) < (n : Int) := by omega
  have k2 : (0 : Int) ≤ ((i : Nat) : Int) := by omega
  have k3 : (0 : Int) ≤ ((j : Nat) : Int) := by omega
  clear h p0 p1
  cases x
  all_goals
    go_enter Try.func28, Try.ntmps28
    go_wp2_with fail
    refine wp_region_quiet_below (by kernel_rfl) (by kernel_rfl) ?_
    repeat (first | go_big_quiet_step ((first | (go_at_call 38; with_reducible exact Calls.regrown_of (a0 _ _)) | (go_at_call 38; with_reducible exact Calls.regrown_of (a1 _ _)))) | quiet_step ((first | (go_at_call 38; with_reducible exact Calls.regrown_of (a0 _ _)) | (go_at_call 38; with_reducible exact Calls.regrown_of (a1 _ _)))))
    refine wpQuiet_nil ?_
    intro _ hw'
    obtain ⟨⟨dq, osq⟩, hw''⟩ := hw'
    subst hw''
    go_wp2_with fail
    go_ret
    exact ⟨rfl, below_regrown _ dq osq⟩
end
end Go.Proofs.Ytachbhgfcdnhdaa
