/- RingSizes: for every size, a new ring holds the least power of two that is as many as it is asked for: the walk. -/
import Derived.Test.YthnidiamgkjbkaaRingSmall
namespace Go.Proofs.Ythnidiamgkjbkaa
open Go.RowKit Go.Sep
/-- what is known of a ring's size -/
theorem size_facts (size : Int) : (size ≤ ringSize size ∨ ringSize size = 4096) ∧ (ringSize size = 1 ∨ ((ringSize size : Nat) : Int) / 2 < size) ∧ (bits .and .i64 ((ringSize size : Nat) : Int) (((ringSize size : Nat) : Int) - 1) == 0) = true := by
  have h1 := up_most size 12 0
  have h2 := up_least size 12 0
  have h3 := up_le size 12 0
  have e : ∀ j, (2 : Int) ^ j = ((2 ^ j : Nat) : Int) := fun j => by simp
  unfold ringSize
  generalize up size 0 12 = j at *
  refine ⟨?_, ?_, ?_⟩
  · rcases h1 with h | h
    · rw [e] at h; exact .inl h
    · subst h; exact .inr (by decide)
  · rcases h2 with h | h
    · subst h; exact .inl (by decide)
    · right
      rw [e] at h
      cases j with
      | zero => simp at h ⊢; omega
      | succ j => rw [Nat.pow_succ]; simp only [Nat.add_sub_cancel] at h; omega
  · rw [← e, and_pow j (by omega)]; rfl
set_option maxHeartbeats 800000 in
theorem sizes_walk (size : Int) (w0 : World) : Calls Try.prog 7 #[.int .i64 size] w0 fun e w' => e = .returned (.bool true) ∧ Below w0.heap.size w0 w' := by
  have hb := ringSize_bd size
  have hf := size_facts size
  obtain ⟨hf1, hf2, hf3⟩ := hf
  have hnew := fun w (h : Owned w0 w []) => ring_new size h
  generalize ringSize size = n at *
  obtain ⟨hb1, hb2, _⟩ := hb
  have hA : ∀ (_ : size ≤ n ∨ decide (size ≤ (n : Int)) = false ∧ ((n : Int) == 4096) = true) (_ : ((n : Int) == 1) = true ∨ ((n : Int) == 1) = false ∧ (n : Int) / 2 < size), Calls Try.prog 7 #[.int .i64 size] w0 fun e w' => e = .returned (.bool true) ∧ Below w0.heap.size w0 w' := by
    rintro (h1 | ⟨h1, h1'⟩) (h2 | ⟨h2, h3⟩)
    all_goals
      clear hf1 hf2
      go_enter Try.func7, Try.ntmps7
      go_wp2_with fail
      go_at_call 8
      refine (small_calls w0).mono ?_
      rintro e w1 ⟨rfl, hb1⟩
      have hO1 := (Owned.nil w0).under hb1
      go_wp2_with fail
      go_at_call 9
      refine (hnew _ hO1).mono ?_
      rintro e w2 ⟨g, r, rfl, hr, hO2⟩
      go_wp2_with fail
      go_at_call 20
      refine (ring_size_calls hr hO2).mono ?_
      rintro e w3 ⟨rfl, rfl⟩
      go_wp2_with fail
      go_at_call 18
      refine (ring_len_calls hr hO2).mono ?_
      rintro e w3 ⟨rfl, rfl⟩
      go_wp2_with fail
      go_at_call 19
      refine (ring_lost_calls hr hO2).mono ?_
      rintro e w3 ⟨rfl, rfl⟩
      go_wp2_with fail
      go_ret
      exact ⟨rfl, hO2.below⟩
  refine hA ?_ ?_
  · by_cases h2 : size ≤ n
    · exact .inl h2
    · rcases hf1 with h | h
      · exact absurd h h2
      · exact .inr ⟨decide_eq_false h2, by rw [h]; rfl⟩
  · rcases hf2 with h | h
    · exact .inl (by rw [h]; rfl)
    · by_cases h2 : n = 1
      · exact .inl (by rw [h2]; rfl)
      · exact .inr ⟨by simp; omega, h⟩
end Go.Proofs.Ythnidiamgkjbkaa
