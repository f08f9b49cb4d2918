/- Contracts of layer 4's functions over own memory: clear, ones, new. -/
import Derived.Test.YtachbhgfcdnhdaaDoor2
namespace Go.Proofs.Ytachbhgfcdnhdaa
open Go.RowKit Go.Sep DoorPure
section
variable {g : Nat} {seed : Int} {w0 w : World} {F : Own}
theorem zero64 (w : World) : (zeroValue 72).run Try.prog w = .ok (.int .u64 0) w := by kernel_rfl
theorem putAll_same (cs : Array Value) (vs : List Value) (h : vs.length = cs.size) : putAll cs 0 vs = vs.toArray := putAll_whole cs vs h
set_option maxHeartbeats 800000 in
theorem door_clear {B : List Bool} {r : Own} (hr : DoorAt g seed B r) (h : Owned w0 w (r ++ F)) :
    Calls Try.prog 23 #[.pointer (some ⟨g, 0, none⟩)] w fun e w' => ∃ r', e = .returned (.tuple #[]) ∧ DoorAt g seed (List.replicate B.length false) r' ∧ Owned w0 w' (r' ++ F) := by
  obtain ⟨b, ws, rfl, hw, h1, h2⟩ := hr
  have hlen := hw.len
  have c1 : w.cell? ⟨g, 1, none⟩ = some (.slice (some ⟨b, 0, none⟩) ws.length ws.length) := (Owned.cell h 1).trans rfl
  have hcl := fun ty => Lib.run_clear_slice (P := Try.prog) w 61 72 ty (.int .u64 0) Try.underlying61 zero64 rfl rfl b 0 ws.length ws.length (by omega)
    (fun j hj => by rw [Nat.zero_add, Owned.cell h.swap j, wordsV_get ws j hj]; rfl) (fun j hj => Owned.frozen h.swap _)
  have hO := (Owned.sets (List.replicate ws.length (.int .u64 0)) 0 _ _ h.swap).swap
  rw [putAll_same _ _ (by rw [List.length_replicate, List.size_toArray, wordsV_len])] at hO
  have e : (List.replicate ws.length (Value.int .u64 0)).toArray = (wordsV (List.replicate ws.length 0)).toArray := by simp [wordsV]
  rw [e] at hO
  have HO := Lib.hid hO
  have hz := Words.zero ws.length
  have HZ := Lib.hid hz
  have HL := Lib.hid hlen
  clear h hw hO e hz hlen
  go_enter Try.func23, Try.ntmps23
  go_wp2
  go_end0
  refine ⟨doorB g b seed (List.replicate ws.length 0), rfl, ⟨b, _, rfl, ?_, by rw [List.length_replicate]; exact h1, by rw [List.length_replicate]; exact h2⟩, ?_⟩
  · rw [HL.out]; exact HZ.out
  · unfold doorB
    rw [List.length_replicate]
    exact HO.out
theorem ds_le (n : Nat) : ∀ x, Pop.ds 2 n x ≤ n := by
  induction n with
  | zero => intro x; exact Nat.le_refl _
  | succ n ih => intro x; have := ih (x / 2); rw [Pop.ds]; omega
theorem tot_append : ∀ (a b : List Nat), tot (a ++ b) = tot a + tot b
  | [], b => by simp [tot]
  | x :: a, b => by rw [List.cons_append, tot, tot, tot_append a b]; omega
theorem tot_snoc (ws : List Nat) (k : Nat) (h : k < ws.length) : tot (ws.take (k + 1)) = tot (ws.take k) + Pop.ds 2 64 (ws.getD k 0) := by
  rw [List.take_succ_eq_append_getElem h, tot_append]
  simp [tot, List.getD, h]
theorem tot_le : ∀ ws : List Nat, tot ws ≤ 64 * ws.length
  | [] => Nat.le_refl _
  | x :: a => by
    have := tot_le a
    have := ds_le 64 x
    rw [tot, List.length_cons]; omega
/-- how many bits a door of a width has -/
def capN (width : Int) : Nat := 2 ^ (up width 4 12)
theorem capN_in (width : Int) : (∃ e, 4 ≤ e ∧ e ≤ 16 ∧ capN width = 2 ^ e) ∧ 16 ≤ capN width ∧ capN width ≤ 65536 := by
  have h := up_le width 12 4
  have h1 : 2 ^ 4 ≤ 2 ^ (up width 4 12) := Nat.pow_le_pow_right (by omega) h.1
  have h2 : 2 ^ (up width 4 12) ≤ 2 ^ 16 := Nat.pow_le_pow_right (by omega) h.2
  exact ⟨⟨_, h.1, h.2, rfl⟩, h1, h2⟩
theorem capN_8 (width : Int) : 8 * capN width = 64 * (capN width / 8) := by
  obtain ⟨⟨e, h1, h2, h3⟩, _, _⟩ := capN_in width
  obtain ⟨d, rfl⟩ : ∃ d, e = 3 + d := ⟨e - 3, by omega⟩
  rw [h3, Nat.pow_add]
  omega
theorem info_u64 : (Try.prog.info? 72).map (fun i => (i.zero, i.size, i.bytes)) = some (some (.int .u64 0), 1, 8) := by kernel_rfl
set_option maxHeartbeats 800000 in
theorem door_new (width seed : Int) (h : Owned w0 w F) :
    Calls Try.prog 17 #[.int .i64 width, .int .i64 seed] w fun e w' => ∃ g r, e = .returned (.pointer (some ⟨g, 0, none⟩)) ∧ DoorAt g seed (List.replicate (8 * capN width) false) r ∧ Owned w0 w' (r ++ F) := by
  have hc := ceil_calls width 16 65536 4 16 rfl rfl (by omega) (by omega)
  obtain ⟨_, k1, k2⟩ := capN_in width
  have k8 := capN_8 width
  have e0 : P2 (up width 4 (16 - 4)) = ((capN width : Nat) : Int) := P2_nat _
  rw [e0] at hc
  generalize capN width = c at *
  have hn : (8 * (c : Int)) / 64 = ((c / 8 : Nat) : Int) := by omega
  have hmk := fun w => run_make_row' (P := Try.prog) 61 72 (.int .u64 0) 8 Try.underlying61 info_u64 rfl .i64 .i64 (c / 8) (by omega) (by omega) w
  rw [show ((c / 8 : Nat) : Int) = (c : Int) / 8 by omega] at hmk
  simp only [madeCells_one] at hmk
  have hz := Words.zero (c / 8)
  rw [← k8] at hz
  have HZ := Lib.hid hz
  have hO := (h.alloc (.cells (List.replicate (c / 8) (.int .u64 0)).toArray 72)).alloc (.cells #[.int .i64 seed, .slice (some ⟨w.heap.size, 0, none⟩) (c / 8) (c / 8)] 66)
  have e : (List.replicate (c / 8) (Value.int .u64 0)).toArray = (wordsV (List.replicate (c / 8) 0)).toArray := by simp [wordsV]
  rw [show (w.alloc (.cells (List.replicate (c / 8) (.int .u64 0)).toArray 72)).heap.size = w.heap.size + 1 by simp] at hO
  have HO := Lib.hid hO
  have HE := Lib.hid e
  have b1 : ((c / 8 : Nat) : Int) ≤ 8192 := by omega
  have b2 : (0 : Int) ≤ ((c / 8 : Nat) : Int) := by omega
  have HB := Lib.hid (show 1 ≤ c / 8 ∧ c / 8 ≤ 8192 by omega)
  clear hO e hz h e0
  go_enter Try.func17, Try.ntmps17
  go_wp2_with fail
  go_at_call 31
  refine (hc _).mono ?_
  rintro e w1 ⟨rfl, rfl⟩
  go_wp2_with fail
  go_ret
  refine ⟨w.heap.size + 1, doorB (w.heap.size + 1) w.heap.size seed (List.replicate (c / 8) 0), rfl, ⟨_, _, rfl, HZ.out, by rw [List.length_replicate]; exact HB.out.1, by rw [List.length_replicate]; exact HB.out.2⟩, ?_⟩
  unfold doorB
  rw [List.length_replicate, ← HE.out]
  exact HO.out
end
end Go.Proofs.Ytachbhgfcdnhdaa
