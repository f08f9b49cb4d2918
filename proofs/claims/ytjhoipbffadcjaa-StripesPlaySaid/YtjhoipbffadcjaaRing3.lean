/- Contracts of the ring's functions over own memory: making one; and all of them by what a ring holds. -/
import Derived.Test.YtjhoipbffadcjaaRing2
import Derived.Test.YtjhoipbffadcjaaCeil
namespace Go.Proofs.Ytjhoipbffadcjaa
open Go.RowKit Go.Sep
section
variable {w0 w : World} {F : Own}
/-- how many a ring holds -/
def ringSize (size : Int) : Nat := 2 ^ up size 0 12
theorem ringSize_bd (size : Int) : 1 ≤ ringSize size ∧ ringSize size ≤ 4096 ∧ ∃ j, ringSize size = 2 ^ j := by
  unfold ringSize
  have h := up_le size 12 0
  have h1 : 2 ^ up size 0 12 ≤ 2 ^ 12 := Nat.pow_le_pow_right (by omega) (by omega)
  exact ⟨Nat.one_le_two_pow, by omega, _, rfl⟩
def NewPost (w0 : World) (F : Own) (n : Nat) (e : Ending) (w' : World) : Prop :=
  ∃ g c, e = .returned (.pointer (some ⟨g, 0, none⟩)) ∧ Owned w0 w' (ringB g c n 0 0 0 (List.replicate n 0) ++ F)
set_option maxHeartbeats 400000 in
theorem new_calls (size : Int) (h : Owned w0 w F) : Calls Try.prog 26 #[.int .i64 size] w (NewPost w0 F (ringSize size)) := by
  have hc := fun w => ceil_calls size 1 4096 0 12 rfl rfl (by omega) (by omega) w
  have hb := ringSize_bd size
  have hs : P2 (up size 0 (12 - 0)) = ((ringSize size : Nat) : Int) := P2_nat _
  rw [hs] at hc
  clear hs
  generalize ringSize size = n at *
  obtain ⟨h1, h2, _⟩ := hb
  have hmk := fun w => run_make_row' (P := Try.prog) 26 3 (.int .i64 0) 8 Try.underlying26 info3 rfl .i64 .i64 n (by omega) (by omega) w
  simp only [madeCells_one] at hmk
  have hO := h.alloc (.cells (List.replicate n (.int .i64 0)).toArray 3)
  go_enter Try.func26, Try.ntmps26
  go_wp2_with (go_at_call 25; refine (hc _).mono ?_; rintro e w' ⟨rfl, rfl⟩)
  go_ret
  have hO2 := hO.alloc (.cells #[.slice (some ⟨w.heap.size, 0, none⟩) n n, .int .i64 0, .int .i64 0, .int .i64 0] 63)
  have es : (w.alloc (.cells (List.replicate n (.int .i64 0)).toArray 3)).heap.size = w.heap.size + 1 := by simp
  rw [es] at hO2
  have e0 : (ints (List.replicate n 0)).toArray = (List.replicate n (Value.int .i64 0)).toArray := by simp [ints]
  refine ⟨w.heap.size + 1, w.heap.size, rfl, ?_⟩
  unfold ringB
  rw [e0]
  exact hO2

/-- A ring by what it holds. -/
def Ring (g n : Nat) (L : List Int) (lost : Nat) (r : Own) : Prop :=
  ∃ c at_ cells, r = ringB g c n at_ L.length lost cells ∧ RingOk n at_ L.length lost cells ∧ ∀ j, j < L.length → L.getD j 0 = cells.getD ((at_ + j) % n) 0
def Offered (w0 : World) (F : Own) (g n : Nat) (L : List Int) (lost : Nat) (v : Int) (e : Ending) (w' : World) : Prop :=
  ∃ r, e = .returned (.bool (decide (L.length < n))) ∧ Ring g n (if L.length < n then L ++ [v] else L) (if L.length < n then lost else lost + 1) r ∧ Owned w0 w' (r ++ F)
variable {g n lost : Nat} {L : List Int} {r : Own}
theorem Ring.len_le (hr : Ring g n L lost r) : L.length ≤ n := by obtain ⟨_, _, _, _, ho, _⟩ := hr; exact ho.len1
theorem ring_offer (v : Int) (hr : Ring g n L lost r) (hl : lost + 1 ≤ 1000000) (h : Owned w0 w (r ++ F)) :
    Calls Try.prog 63 #[.pointer (some ⟨g, 0, none⟩), .int .i64 v] w (Offered w0 F g n L lost v) := by
  obtain ⟨c, at_, cells, rfl, ho, hL⟩ := hr
  by_cases hf : L.length < n
  · refine (offer_room v ho hf h).mono ?_
    rintro e w' ⟨rfl, h'⟩
    refine ⟨_, by rw [decide_eq_true hf], ?_, h'⟩
    rw [if_pos hf, if_pos hf]
    refine ⟨c, at_, _, by rw [List.length_append]; rfl, ?_, ?_⟩
    · rw [List.length_append]
      exact ⟨ho.pow, ho.n1, ho.n2, by rw [List.length_set]; exact ho.cl, ho.at1, by simp; omega, ho.lost1⟩
    · intro j hj
      have a1 := ho.at1
      have n1 := ho.n1
      have hq : (at_ + L.length) % n < cells.length := by rw [ho.cl]; exact Nat.mod_lt _ (by omega)
      rw [List.length_append, List.length_singleton] at hj
      by_cases hjl : j < L.length
      · have hne : (at_ + L.length) % n ≠ (at_ + j) % n := by
          intro he
          have h1 := Nat.mod_add_div (at_ + L.length) n
          have h2 := Nat.mod_add_div (at_ + j) n
          have h3 : n * ((at_ + L.length) / n) = n * ((at_ + j) / n) + (L.length - j) := by omega
          have h4 : (at_ + j) / n ≤ (at_ + L.length) / n := Nat.div_le_div_right (by omega)
          rcases Nat.lt_or_ge ((at_ + j) / n) ((at_ + L.length) / n) with h5 | h5
          · have h6 : n * ((at_ + j) / n) + n ≤ n * ((at_ + L.length) / n) := by
              rw [← Nat.mul_succ]; exact Nat.mul_le_mul_left n h5
            omega
          · have h6 : (at_ + j) / n = (at_ + L.length) / n := by omega
            rw [h6] at h3; omega
        have e1 : (L ++ [v]).getD j 0 = L.getD j 0 := by simp [List.getD, List.getElem?_append_left hjl]
        rw [e1, hL j hjl]
        simp [List.getD, List.getElem?_set_ne hne]
      · obtain rfl : j = L.length := by omega
        simp [List.getD, hq]
  · have hf' : L.length = n := by have := ho.len1; omega
    refine (offer_full v ho hf' h).mono ?_
    rintro e w' ⟨rfl, h'⟩
    refine ⟨_, by rw [decide_eq_false hf], ?_, h'⟩
    rw [if_neg hf, if_neg hf]
    exact ⟨c, at_, cells, rfl, ⟨ho.pow, ho.n1, ho.n2, ho.cl, ho.at1, ho.len1, hl⟩, hL⟩
def Taken (w0 : World) (F : Own) (g n : Nat) (L : List Int) (lost : Nat) (e : Ending) (w' : World) : Prop :=
  ∃ r, e = .returned (.tuple #[.int .i64 (L.headD 0), .bool (!L.isEmpty)]) ∧ Ring g n L.tail lost r ∧ Owned w0 w' (r ++ F)
theorem ring_take (hr : Ring g n L lost r) (h : Owned w0 w (r ++ F)) :
    Calls Try.prog 64 #[.pointer (some ⟨g, 0, none⟩)] w (Taken w0 F g n L lost) := by
  obtain ⟨c, at_, cells, rfl, ho, hL⟩ := hr
  cases L with
  | nil =>
    refine (take_none ho rfl h).mono ?_
    rintro e w' ⟨rfl, h'⟩
    exact ⟨_, rfl, ⟨c, at_, cells, rfl, ho, hL⟩, h'⟩
  | cons x L =>
    refine (take_some ho (by simp) h).mono ?_
    rintro e w' ⟨rfl, h'⟩
    have a1 := ho.at1
    have hx := hL 0 (by simp)
    rw [Nat.add_zero, Nat.mod_eq_of_lt a1] at hx
    refine ⟨_, by rw [← hx]; rfl, ?_, h'⟩
    refine ⟨c, (at_ + 1) % n, cells, rfl, ⟨ho.pow, ho.n1, ho.n2, ho.cl, Nat.mod_lt _ (by omega), by have := ho.len1; simp at this ⊢; omega, ho.lost1⟩, ?_⟩
    intro j hj
    have h1 := hL (j + 1) (by simpa using hj)
    have e1 : (x :: L).getD (j + 1) 0 = L.getD j 0 := by simp [List.getD]
    rw [e1] at h1
    show L.getD j 0 = _
    rw [h1]
    congr 1
    rw [Nat.mod_add_mod, Nat.add_assoc, Nat.add_comm 1 j]
def Drained (w0 : World) (F : Own) (g n : Nat) (L : List Int) (lost : Nat) (e : Ending) (w' : World) : Prop :=
  ∃ v r1 r, e = .returned v ∧ Row 3 1 v L.length (ints L) r1 ∧ Ring g n [] lost r ∧ Owned w0 w' (r1 ++ (r ++ F))
theorem ring_drain (hr : Ring g n L lost r) (h : Owned w0 w (r ++ F)) :
    Calls Try.prog 60 #[.pointer (some ⟨g, 0, none⟩)] w (Drained w0 F g n L lost) := by
  obtain ⟨c, at_, cells, rfl, ho, hL⟩ := hr
  refine (drain_calls ho h).mono ?_
  rintro e w' ⟨v, r1, rfl, hrow, h'⟩
  have a1 := ho.at1
  have hcl := ho.cl
  have hl := ho.len1
  have e1 : (cells.drop at_ ++ cells).take L.length = L := by
    apply List.ext_getElem
    · simp; omega
    · intro j h1 h2
      have h3 := hL j h2
      have e2 : L.getD j 0 = L[j] := by simp [List.getD, h2]
      rw [e2] at h3
      rw [h3, List.getElem_take]
      by_cases hj : j < n - at_
      · rw [List.getElem_append_left (by simp; omega), List.getElem_drop, Nat.mod_eq_of_lt (by omega)]
        simp [List.getD, show at_ + j < cells.length by omega]
      · rw [List.getElem_append_right (by simp; omega)]
        have e3 : (at_ + j) % n = j - (n - at_) := by
          rw [Nat.mod_eq_sub_mod (by omega), Nat.mod_eq_of_lt (by omega)]; omega
        have e4 : j - (cells.drop at_).length = j - (n - at_) := by simp [hcl]
        simp only [e4]
        rw [e3]
        simp [List.getD, show j - (n - at_) < cells.length by omega]
  rw [e1] at hrow
  exact ⟨v, r1, _, rfl, hrow, ⟨c, 0, cells, rfl, ⟨ho.pow, ho.n1, ho.n2, ho.cl, by omega, by simp, ho.lost1⟩, fun j hj => by simp at hj⟩, h'⟩
theorem ring_len_calls (hr : Ring g n L lost r) (h : Owned w0 w (r ++ F)) :
    Calls Try.prog 61 #[.pointer (some ⟨g, 0, none⟩)] w fun e w' => e = .returned (.int .i64 (L.length : Int)) ∧ w = w' := by
  obtain ⟨c, at_, cells, rfl, ho, hL⟩ := hr
  exact len_calls h
theorem ring_lost_calls (hr : Ring g n L lost r) (h : Owned w0 w (r ++ F)) :
    Calls Try.prog 62 #[.pointer (some ⟨g, 0, none⟩)] w fun e w' => e = .returned (.int .i64 (lost : Int)) ∧ w = w' := by
  obtain ⟨c, at_, cells, rfl, ho, hL⟩ := hr
  exact lost_calls h
def Made (w0 : World) (F : Own) (n : Nat) (e : Ending) (w' : World) : Prop :=
  ∃ g r, e = .returned (.pointer (some ⟨g, 0, none⟩)) ∧ Ring g n [] 0 r ∧ Owned w0 w' (r ++ F)
theorem ring_new (size : Int) (h : Owned w0 w F) : Calls Try.prog 26 #[.int .i64 size] w (Made w0 F (ringSize size)) := by
  refine (new_calls size h).mono ?_
  rintro e w' ⟨g, c, rfl, h'⟩
  have hb := ringSize_bd size
  exact ⟨g, _, rfl, ⟨c, 0, _, rfl, ⟨hb.2.2, hb.1, hb.2.1, by simp, by omega, by simp, by omega⟩, fun j hj => by simp at hj⟩, h'⟩
end
end Go.Proofs.Ytjhoipbffadcjaa
