/- Contracts of the ring's functions over own memory: making one, and draining it. -/
import Derived.Test.YtjhoipbffadcjaaRing
import Derived.Deep.OwnRows
import Derived.Laws.CopyOwn
namespace Go.Proofs.Ytjhoipbffadcjaa
open Go.RowKit Go.Sep
section
variable {g c n at_ len lost : Nat} {cells : List Int} {w0 w : World} {F : Own}

theorem info3 : (Try.prog.info? 3).map (fun i => (i.zero, i.size, i.bytes)) = some (some (.int .i64 0), 1, 8) := by kernel_rfl
theorem size3 : (Try.prog.info? 3).map (·.size) = some 1 := by kernel_rfl


theorem ring_src (h : Owned w0 w (ringB g c n at_ len lost cells ++ F)) (i m : Nat) :
    ∀ j v, (ints ((cells.drop i).take m))[j]? = some v → w.cell? ((⟨c, i, none⟩ : Addr).add j) = some v := by
  intro j v hj
  simp only [ints, List.getElem?_map, Option.map_eq_some_iff] at hj
  obtain ⟨x, hx, rfl⟩ := hj
  have hlt : i + j < cells.length := by
    have := (List.getElem?_eq_some_iff.1 hx).1
    simp at this; omega
  have hx' : cells[i + j]? = some x := by
    have h2 := hx
    rw [List.getElem?_take] at h2
    split at h2
    · rw [List.getElem?_drop] at h2; exact h2
    · cases h2
  rw [Addr.add_lit]
  refine (Owned.cell (Owned.swap h) _).trans ((ints_get _ _ hlt).trans ?_)
  simp [List.getD, hx']


theorem splice_two {α : Type} (z : α) (len k : Nat) (A B : List α) (hA : A.length = k) (hB : B.length = len - k) (_hk : k ≤ len) : splice (splice (List.replicate len z) 0 A) k B = A ++ B := by
  have e1 : splice (List.replicate len z) 0 A = A ++ (List.replicate len z).drop k := by simp [splice, hA]
  rw [e1]
  have e2 : (A ++ (List.replicate len z).drop k).take k = A := by rw [← hA]; simp
  have e3 : (A ++ (List.replicate len z).drop k).drop (k + B.length) = [] := by
    apply List.drop_eq_nil_of_le; simp [hA, hB]
  unfold splice
  rw [e2, e3, List.append_nil]
theorem drain_row {gb k : Nat} (hcl : cells.length = n) (hle : at_ ≤ n) (hkk : (ints (List.take len (List.drop at_ cells))).length = k) (_hk : k = min len (n - at_)) (l1 : len ≤ n) (hm : len ≤ 4096) :
    Row 3 1 (.slice (some ⟨gb, 0, none⟩) len len) len (ints ((cells.drop at_ ++ cells).take len)) [(gb, .cells (splice (splice (List.replicate len (Value.int .i64 0)) 0 (ints (List.take len (List.drop at_ cells)))) k (ints ((cells.drop 0).take (len - k)))).toArray 3 (0, 0))] := by
  have hB : (ints ((cells.drop 0).take (len - k))).length = len - k := by rw [ints_len, List.length_take, List.length_drop]; omega
  rw [splice_two _ _ _ _ _ hkk hB (by omega)]
  have e : ints ((cells.drop at_ ++ cells).take len) = ints (List.take len (List.drop at_ cells)) ++ ints ((cells.drop 0).take (len - k)) := by
    rw [List.take_append, List.drop_zero, List.length_drop, hcl, show len - k = len - (n - at_) by omega]
    simp [ints]
  refine ⟨by rw [e, List.length_append, hkk, hB]; omega, .inr ⟨gb, len, _, rfl, rfl, Nat.le_refl _, by unfold maxLen; omega, by rw [List.size_toArray, List.length_append, hkk, hB]; omega, ?_⟩⟩
  rw [e, Nat.mul_one]
  exact List.take_of_length_le (by rw [List.length_append, hkk, hB]; omega)

set_option maxHeartbeats 400000 in
theorem drain_calls (ho : RingOk n at_ len lost cells) (h : Owned w0 w (ringB g c n at_ len lost cells ++ F)) :
    Calls Try.prog 60 #[.pointer (some ⟨g, 0, none⟩)] w fun e w' => ∃ v r, e = .returned v ∧ Row 3 1 v len (ints ((cells.drop at_ ++ cells).take len)) r ∧ Owned w0 w' (r ++ (ringB g c n 0 0 lost cells ++ F)) := by
  have c0 : w.cell? ⟨g, 0, none⟩ = some (.slice (some ⟨c, 0, none⟩) n n) := (Owned.cell h 0).trans rfl
  have c1 : w.cell? ⟨g, 1, none⟩ = some (.int .i64 at_) := (Owned.cell h 1).trans rfl
  have c2 : w.cell? ⟨g, 2, none⟩ = some (.int .i64 len) := (Owned.cell h 2).trans rfl
  have n2 := ho.n2
  have n1 := ho.n1
  have a1 := ho.at1
  have l1 := ho.len1
  have hmk := fun w => run_make_row' (P := Try.prog) 26 3 (.int .i64 0) 8 Try.underlying26 info3 rfl .i64 .i64 len (by omega) (by omega) w
  simp only [madeCells_one] at hmk
  have hO := (h.alloc (.cells (List.replicate len (.int .i64 0)).toArray 3)).drew
  have hlt : ∀ p ∈ ringB g c n at_ len lost cells ++ F, p.1 < w.heap.size := h.fresh
  have hgc : g < w.heap.size ∧ c < w.heap.size := ⟨hlt (g, _) List.mem_cons_self, hlt (c, _) (List.mem_cons_of_mem _ List.mem_cons_self)⟩
  obtain ⟨hg1, hc1⟩ := hgc
  have HL := Lib.hid ho.cl
  have HLT := Lib.hid hlt
  clear hlt
  have hle : at_ ≤ n := by omega
  have hneq : ¬ n = at_ := by omega
  go_enter Try.func60, Try.ntmps60
  go_wp2
  go_region_law (refine step_copy_splice rfl (.tmp 10) (.tmp 19) 26 26 rfl 3 Try.underlying26 size3 (some ⟨w.heap.size, 0, none⟩) (some ⟨c, at_, none⟩) len len (n - at_) (n - at_) rfl rfl w.heap.size 0 (List.replicate len (.int .i64 0)) 3 hO.head (ints ((cells.drop at_).take len)) (by rw [ints_len, List.length_take, List.length_drop, HL.out]; exact Nat.min_comm _ _) (fun _ => ⟨rfl, _, rfl, ring_src hO.tail at_ len⟩) (by rw [ints_len, List.length_take, List.length_drop, List.length_replicate]; omega) (ints_one _) w.heap.size _ (Below.refl _ _) (Nat.le_refl _) ?_; intro w4 hg4 hb4)
  all_goals
    have hO4 := hO.top HLT.out hb4 hg4.out
    clear hO hg4 hb4
    have hk1 : (ints (List.take len (List.drop at_ cells))).length ≤ len := by rw [ints_len, List.length_take]; omega
    have HK := Lib.hid (show (ints (List.take len (List.drop at_ cells))).length = min len (n - at_) by rw [ints_len, List.length_take, List.length_drop, HL.out])
    have d0 : w4.cell? ⟨g, 0, none⟩ = some (.slice (some ⟨c, 0, none⟩) n n) := (Owned.cell hO4.tail 0).trans rfl
    have e1 : w4.frozen? ⟨g, 1, none⟩ = false := Owned.frozen hO4.tail 1
    have e2 : w4.frozen? ⟨g, 2, none⟩ = false := Owned.frozen hO4.tail 2
    have d1 : w4.cell? ⟨g, 1, none⟩ = some (.int .i64 at_) := (Owned.cell hO4.tail 1).trans rfl
    have d2 : w4.cell? ⟨g, 2, none⟩ = some (.int .i64 len) := (Owned.cell hO4.tail 2).trans rfl
    generalize hkk : (ints (List.take len (List.drop at_ cells))).length = k at *
    have HKK := Lib.hid hkk
    clear hkk
    go_wp2
    go_region_law (refine step_copy_splice rfl (.tmp 23) (.tmp 27) 26 26 rfl 3 Try.underlying26 size3 (if len = k then some ⟨w.heap.size, 0, none⟩ else some ⟨w.heap.size, k, none⟩) (some ⟨c, 0, none⟩) (len - k) (len - k) n n rfl rfl w.heap.size k _ 3 hO4.drew.head (ints ((cells.drop 0).take (len - k))) (by rw [ints_len, List.length_take, List.length_drop, HL.out, Nat.sub_zero]; exact Nat.min_comm _ _) (fun hp => ⟨if_neg (by rw [ints_len, List.length_take] at hp; omega), _, rfl, ring_src hO4.drew.tail 0 (len - k)⟩) (by rw [ints_len, List.length_take, List.length_drop, length_splice _ _ _ (by rw [HKK.out, List.length_replicate]; omega), List.length_replicate]; omega) (ints_one _) w.heap.size _ (Below.refl _ _) (Nat.le_refl _) ?_; intro w5 hg5 hb5)
    all_goals
      have hO5 := hO4.drew.top HLT.out hb5 hg5.out
      clear hO4 hg5 hb5
      have e1 : w5.frozen? ⟨g, 1, none⟩ = false := Owned.frozen hO5.tail 1
      have e2 : w5.frozen? ⟨g, 2, none⟩ = false := Owned.frozen hO5.tail 2
      have d1 : w5.cell? ⟨g, 1, none⟩ = some (.int .i64 at_) := (Owned.cell hO5.tail 1).trans rfl
      have d2 : w5.cell? ⟨g, 2, none⟩ = some (.int .i64 len) := (Owned.cell hO5.tail 2).trans rfl
      generalize (if len = k then some (⟨w.heap.size, 0, none⟩ : Addr) else some ⟨w.heap.size, k, none⟩) = dp
      go_wp2
      go_ret
      refine ⟨_, _, rfl, drain_row HL.out hle HKK.out HK.out l1 (by omega), ?_⟩
      exact Owned.swap2 (ring_len (ring_at (Owned.swap3 hO5) 0) 0)
end
end Go.Proofs.Ytjhoipbffadcjaa
