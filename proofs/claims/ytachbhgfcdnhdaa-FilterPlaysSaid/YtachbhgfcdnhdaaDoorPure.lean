/- Plain facts: bits of words in a row, and how many are on. -/
import Derived.Test.YtachbhgfcdnhdaaPop
namespace DoorPure
open Pop
/-- the bits of a row of words -/
structure Words (ws : List Nat) (B : List Bool) : Prop where
  len : B.length = 64 * ws.length
  lt : ∀ i, ws.getD i 0 < 18446744073709551616
  bit : ∀ j, j < B.length → (ws.getD (j / 64) 0).testBit (j % 64) = B.getD j false
theorem Words.zero (n : Nat) : Words (List.replicate n 0) (List.replicate (64 * n) false) := by
  refine ⟨by simp, fun i => ?_, fun j hj => ?_⟩
  · simp only [List.getD, List.getElem?_replicate]
    split <;> simp
  · simp only [List.getD, List.getElem?_replicate]
    split <;> (split <;> simp)
theorem getD_set (l : List Nat) (i k : Nat) (v d : Nat) : (l.set i v).getD k d = if i = k ∧ i < l.length then v else l.getD k d := by
  simp only [List.getD, List.getElem?_set]
  by_cases h : i = k
  · subst h
    by_cases h2 : i < l.length
    · rw [if_pos rfl, if_pos h2, if_pos ⟨rfl, h2⟩]; rfl
    · rw [if_pos rfl, if_neg h2, if_neg (fun hh => h2 hh.2), List.getElem?_eq_none (by omega)]
  · rw [if_neg h, if_neg (fun hh => h hh.1)]
theorem getD_setB (l : List Bool) (i k : Nat) (v : Bool) : (l.set i v).getD k false = if i = k ∧ i < l.length then v else l.getD k false := by
  simp only [List.getD, List.getElem?_set]
  by_cases h : i = k
  · subst h
    by_cases h2 : i < l.length
    · rw [if_pos rfl, if_pos h2, if_pos ⟨rfl, h2⟩]; rfl
    · rw [if_pos rfl, if_neg h2, if_neg (fun hh => h2 hh.2), List.getElem?_eq_none (by omega)]
  · rw [if_neg h, if_neg (fun hh => h hh.1)]
/-- a bit that is turned on -/
theorem Words.on {ws : List Nat} {B : List Bool} (h : Words ws B) (j : Nat) (hj : j < B.length) : Words (ws.set (j / 64) (ws.getD (j / 64) 0 ||| 2 ^ (j % 64))) (B.set j true) := by
  have hlen := h.len
  have hp : 2 ^ (j % 64) < 2 ^ 64 := Nat.pow_lt_pow_right (by omega) (by omega)
  refine ⟨by simp [h.len], fun i => ?_, fun k hk => ?_⟩
  · rw [getD_set]
    split
    · exact Nat.or_lt_two_pow (n := 64) (h.lt _) hp
    · exact h.lt i
  · rw [List.length_set] at hk
    rw [getD_set, getD_setB]
    by_cases he : j / 64 = k / 64
    · rw [if_pos ⟨he, by omega⟩, Nat.testBit_or, Nat.testBit_two_pow, he, h.bit k hk]
      by_cases e : j = k
      · subst e; simp [hj]
      · rw [if_neg (fun hh => e hh.1)]
        have : ¬ j % 64 = k % 64 := by omega
        simp [this]
    · rw [if_neg (fun hh => he hh.1), if_neg (fun hh => he (by rw [hh.1])), h.bit k hk]
/-- how many are on -/
def cnt (B : List Bool) : Nat := B.countP (fun b => b)
def tot : List Nat → Nat
  | [] => 0
  | w :: ws => ds 2 64 w + tot ws
def bitsOf (w : Nat) : Nat → List Bool
  | 0 => []
  | n + 1 => (decide (w % 2 = 1)) :: bitsOf (w / 2) n
theorem bitsOf_len (w : Nat) : ∀ n, (bitsOf w n).length = n
  | 0 => rfl
  | n + 1 => by rw [bitsOf, List.length_cons, bitsOf_len]
theorem bitsOf_get : ∀ (n w k : Nat), k < n → (bitsOf w n).getD k false = w.testBit k
  | 0, _, _, h => by omega
  | n + 1, w, 0, _ => by
    rw [bitsOf, Nat.testBit_zero]
    rfl
  | n + 1, w, k + 1, h => by
    rw [bitsOf, Nat.testBit_succ, ← bitsOf_get n (w / 2) k (by omega)]
    rfl
theorem cnt_append (A B : List Bool) : cnt (A ++ B) = cnt A + cnt B := List.countP_append
theorem cnt_bits : ∀ (n w : Nat), cnt (bitsOf w n) = ds 2 n w
  | 0, _ => rfl
  | n + 1, w => by
    rw [bitsOf, ds, ← cnt_bits n (w / 2), cnt, cnt, List.countP_cons]
    rcases Nat.mod_two_eq_zero_or_one w with h | h <;> rw [h] <;> simp <;> omega
theorem ext_getD {A B : List Bool} (hl : A.length = B.length) (h : ∀ k, k < A.length → A.getD k false = B.getD k false) : A = B := by
  apply List.ext_getElem hl
  intro i h1 h2
  have := h i h1
  simpa [List.getD, h1, h2] using this
theorem words_tot : ∀ (ws : List Nat) (B : List Bool), Words ws B → tot ws = cnt B
  | [], B, h => by
    have : B = [] := List.eq_nil_of_length_eq_zero (by rw [h.len]; rfl)
    subst this
    rfl
  | w :: ws, B, h => by
    have hlen := h.len
    simp only [List.length_cons] at hlen
    have e : B = bitsOf w 64 ++ B.drop 64 := by
      apply ext_getD
      · rw [List.length_append, bitsOf_len, List.length_drop]; omega
      · intro k hk
        rw [← h.bit k hk]
        by_cases h64 : k < 64
        · have e1 : k / 64 = 0 := by omega
          have e2 : k % 64 = k := by omega
          rw [e1, e2, show (bitsOf w 64 ++ B.drop 64).getD k false = (bitsOf w 64).getD k false by
            simp only [List.getD]; rw [List.getElem?_append_left (by rw [bitsOf_len]; exact h64)], bitsOf_get 64 w k h64]
          rfl
        · rw [show (bitsOf w 64 ++ B.drop 64).getD k false = B.getD k false by
            simp only [List.getD]; rw [List.getElem?_append_right (by rw [bitsOf_len]; omega), bitsOf_len, List.getElem?_drop]; congr 2; omega, h.bit k hk]
    have ht : Words ws (B.drop 64) := by
      refine ⟨by rw [List.length_drop]; omega, fun i => h.lt (i + 1), fun j hj => ?_⟩
      rw [List.length_drop] at hj
      have h1 := h.bit (j + 64) (by omega)
      rw [show (j + 64) / 64 = j / 64 + 1 by omega, show (j + 64) % 64 = j % 64 by omega] at h1
      rw [show (B.drop 64).getD j false = B.getD (j + 64) false by simp only [List.getD]; rw [List.getElem?_drop]; congr 2; omega, ← h1]
      rfl
    rw [tot, words_tot ws _ ht, e, cnt_append, cnt_bits]
    congr 2
theorem cnt_le (B : List Bool) : cnt B ≤ B.length := List.countP_le_length
theorem cnt_zero (n : Nat) : cnt (List.replicate n false) = 0 := by simp [cnt]
theorem cnt_set (B : List Bool) (j : Nat) (hj : j < B.length) : cnt (B.set j true) = cnt B + if B.getD j false = true then 0 else 1 := by
  unfold cnt
  rw [List.countP_set hj]
  have e : B.getD j false = B[j] := by simp [List.getD, hj]
  rw [e]
  cases hb : B[j]
  · simp
  · have : 0 < B.countP (fun b => b) := List.countP_pos_iff.2 ⟨B[j], List.getElem_mem _, by simp [hb]⟩
    simp
    omega
end DoorPure
