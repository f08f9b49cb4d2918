/- The document's arena: New. -/
import Derived.Test.YtepjebmiegkpnaaRefAr3
namespace Go.Proofs.Ytepjebmiegkpnaa
open Go.RowKit Go.Sep
section
variable {F : Own} {w0 w : World}
theorem ra_newIn (b1 b2 : Nat) : RaIn (.slice (some ⟨b1, 0, none⟩) 1 1) (.slice (some ⟨b2, 0, none⟩) 1 1) (.slice none 0 0) [(b1, .cells #[.bool false] 4 (0, 0))] [(b2, .cells #[.int .i64 0, .int .i64 0] 30 (0, 0))] [] [] [] :=
  ⟨⟨rfl, .inr ⟨b1, 1, _, rfl, rfl, by simp, by unfold maxLen; omega, rfl, rfl⟩⟩, ⟨rfl, .inr ⟨b2, 1, _, rfl, rfl, by simp, by unfold maxLen; omega, rfl, rfl⟩⟩, Row.nil _ _⟩
theorem ra_newA {m : Nat} (X : Int) (hX : (m : Int) = X) (h : Owned w0 w F) : ∃ g, Ending.returned (.pointer (some ⟨w.heap.size + 1 + 1, 0, none⟩)) = Ending.returned (.pointer (some ⟨g, 0, none⟩)) ∧ ∃ r, RefAr g m [] [] r ∧
    Owned w0 (((w.alloc (.cells #[.bool false] 4)).alloc (.cells #[.int .i64 0, .int .i64 0] 30)).alloc (.cells #[.int .i64 X, .slice (some ⟨w.heap.size, 0, none⟩) 1 1, .slice (some ⟨w.heap.size + 1, 0, none⟩) 1 1, .slice none 0 0] 48)).drew (r ++ F) := by
  subst hX
  have k := ((h.alloc (.cells #[.bool false] 4)).alloc (.cells #[.int .i64 0, .int .i64 0] 30)).alloc (.cells #[.int .i64 (m : Int), .slice (some ⟨w.heap.size, 0, none⟩) 1 1, .slice (some ⟨w.heap.size + 1, 0, none⟩) 1 1, .slice none 0 0] 48)
  have e1 : (w.alloc (.cells #[.bool false] 4)).heap.size = w.heap.size + 1 := by simp
  have e2 : ((w.alloc (.cells #[.bool false] 4)).alloc (.cells #[.int .i64 0, .int .i64 0] 30)).heap.size = w.heap.size + 1 + 1 := by simp
  rw [e1, e2] at k
  refine ⟨_, rfl, _, ⟨_, _, _, _, _, _, rfl, ra_newIn (w.heap.size) (w.heap.size + 1)⟩, ?_⟩
  exact (k.perm (List.Perm.cons _ (List.Perm.swap _ _ _))).drew
theorem ra_newB {m : Nat} (X : Int) (hX : (m : Int) = X) (h : Owned w0 w F) : ∃ g, Ending.returned (.pointer (some ⟨w.heap.size + 1 + 1, 0, none⟩)) = Ending.returned (.pointer (some ⟨g, 0, none⟩)) ∧ ∃ r, RefAr g m [] [] r ∧
    Owned w0 (((w.alloc (.cells #[.int .i64 0, .int .i64 0] 30)).alloc (.cells #[.bool false] 4)).alloc (.cells #[.int .i64 X, .slice (some ⟨w.heap.size + 1, 0, none⟩) 1 1, .slice (some ⟨w.heap.size, 0, none⟩) 1 1, .slice none 0 0] 48)).drew (r ++ F) := by
  subst hX
  have k := ((h.alloc (.cells #[.int .i64 0, .int .i64 0] 30)).alloc (.cells #[.bool false] 4)).alloc (.cells #[.int .i64 (m : Int), .slice (some ⟨w.heap.size + 1, 0, none⟩) 1 1, .slice (some ⟨w.heap.size, 0, none⟩) 1 1, .slice none 0 0] 48)
  have e1 : (w.alloc (.cells #[.int .i64 0, .int .i64 0] 30)).heap.size = w.heap.size + 1 := by simp
  have e2 : ((w.alloc (.cells #[.int .i64 0, .int .i64 0] 30)).alloc (.cells #[.bool false] 4)).heap.size = w.heap.size + 1 + 1 := by simp
  rw [e1, e2] at k
  refine ⟨_, rfl, _, ⟨_, _, _, _, _, _, rfl, ra_newIn (w.heap.size + 1) (w.heap.size)⟩, ?_⟩
  exact k.drew
set_option maxHeartbeats 1600000 in
theorem ra_new (most : Int) (h : Owned w0 w F) : Calls Try.prog 16 #[.int .i64 most] w
    (fun e w' => ∃ g r, e = .returned (.pointer (some ⟨g, 0, none⟩)) ∧ RefAr g (mostOf most) [] [] r ∧ Owned w0 w' (r ++ F)) := by
  have hmk1 : ∀ w, (Instr.makeSlice 45 (.int .i64 1) (.int .i64 1)).run Try.prog w = .ok (.slice (some ⟨w.heap.size, 0, none⟩) 1 1) (w.alloc (.cells #[.bool false] 4)) := fun _ => by kernel_rfl
  have hmk2 : ∀ w, (Instr.makeSlice 46 (.int .i64 1) (.int .i64 1)).run Try.prog w = .ok (.slice (some ⟨w.heap.size, 0, none⟩) 1 1) (w.alloc (.cells #[.int .i64 0, .int .i64 0] 30)) := fun _ => by kernel_rfl
  have hm : ((mostOf most : Nat) : Int) = min (max 0 most) 65536 := by unfold mostOf; omega
  have HM := Lib.hid hm
  have HA := Lib.hid (fun (X : Int) (hX : ((mostOf most : Nat) : Int) = X) => ra_newA X hX h)
  have HB := Lib.hid (fun (X : Int) (hX : ((mostOf most : Nat) : Int) = X) => ra_newB X hX h)
  clear hm h
  go_enter Try.func16, Try.ntmps16
  go_wp2_with fail
  go_region_with (fail)
  all_goals go_wp2_with fail
  all_goals go_ret
  all_goals first
    | (refine HA.out _ ?_; have := HM.out; omega)
    | (refine HB.out _ ?_; have := HM.out; omega)
end
end Go.Proofs.Ytepjebmiegkpnaa
