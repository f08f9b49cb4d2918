/- The door's bits, abstractly; the statements' small case comes out right. -/
import Derived.Test.YtachbhgfcdnhdaaDoor3
import Derived.Test.YtachbhgfcdnhdaaReads
namespace Go.Proofs.Ytachbhgfcdnhdaa
open Go.RowKit Go.Sep DoorPure
def putB (seed key : Int) (B : List Bool) : List Bool := (B.set (plc seed key 0 B.length) true).set (plc seed key 1 B.length) true
def hasB (seed key : Int) (B : List Bool) : Bool := B.getD (plc seed key 0 B.length) false && B.getD (plc seed key 1 B.length) false
theorem putB_len (s k : Int) (B : List Bool) : (putB s k B).length = B.length := by simp [putB]
theorem getD_put (s k : Int) {B : List Bool} (hB : 1 ≤ B.length) (t : Nat) : (putB s k B).getD t false = true ↔ (B.getD t false = true ∨ t = plc s k 0 B.length ∨ t = plc s k 1 B.length) := by
  have p0 := plc_lt s k 0 hB
  have p1 := plc_lt s k 1 hB
  unfold putB
  generalize plc s k 0 B.length = i at *
  generalize plc s k 1 B.length = j at *
  rw [getD_setB, getD_setB, List.length_set]
  by_cases h1 : j = t
  · subst h1; simp [p1]
  · rw [if_neg (fun h => h1 h.1)]
    by_cases h2 : i = t
    · subst h2; simp [p0]
    · rw [if_neg (fun h => h2 h.1)]
      constructor
      · exact Or.inl
      · rintro (h | h | h)
        · exact h
        · exact absurd h.symm h2
        · exact absurd h.symm h1
theorem hasB_iff (s k : Int) (B : List Bool) : hasB s k B = true ↔ (B.getD (plc s k 0 B.length) false = true ∧ B.getD (plc s k 1 B.length) false = true) := by
  unfold hasB; rw [Bool.and_eq_true]
theorem has_put (s k : Int) {B : List Bool} (hB : 1 ≤ B.length) : hasB s k (putB s k B) = true := by
  rw [hasB_iff, putB_len, getD_put s k hB, getD_put s k hB]
  exact ⟨Or.inr (Or.inl rfl), Or.inr (Or.inr rfl)⟩
theorem has_mono (s k k' : Int) {B : List Bool} (hB : 1 ≤ B.length) (h : hasB s k B = true) : hasB s k (putB s k' B) = true := by
  rw [hasB_iff] at h
  rw [hasB_iff, putB_len, getD_put s k' hB, getD_put s k' hB]
  exact ⟨Or.inl h.1, Or.inl h.2⟩
theorem has_zero (s k : Int) (n : Nat) : hasB s k (List.replicate n false) = false := by
  have e : ∀ i, (List.replicate n false).getD i false = false := by
    intro i
    simp only [List.getD, List.getElem?_replicate]
    split <;> rfl
  unfold hasB
  rw [e, e]; rfl
theorem cnt_put (s k : Int) {B : List Bool} (hB : 1 ≤ B.length) : cnt B ≤ cnt (putB s k B) ∧ cnt (putB s k B) ≤ cnt B + 2 ∧ (hasB s k B = true → cnt (putB s k B) = cnt B) ∧ (hasB s k B = false → cnt B + 1 ≤ cnt (putB s k B)) := by
  have p0 := plc_lt s k 0 hB
  have p1 := plc_lt s k 1 hB
  unfold putB hasB
  generalize plc s k 0 B.length = i at *
  generalize plc s k 1 B.length = j at *
  rw [cnt_set _ _ (by rw [List.length_set]; exact p1), cnt_set _ _ p0, getD_setB]
  by_cases e : i = j
  · subst e
    cases hi : B.getD i false <;> simp [p0]
  · cases hi : B.getD i false <;> cases hj : B.getD j false <;> simp only [e, false_and, if_false] <;> simp <;> omega
section
variable {g : Nat} {seed : Int} {w0 w : World} {F r : Own} {B : List Bool}
theorem DoorAt.le (hr : DoorAt g seed B r) : 64 ≤ B.length ∧ B.length ≤ 524288 := by
  obtain ⟨b, ws, rfl, hw, h1, h2⟩ := hr
  rw [hw.len]; omega
theorem d_put (key : Int) {b : Bool} (hb : hasB seed key B = b) (hr : DoorAt g seed B r) (h : Owned w0 w (r ++ F)) :
    Calls Try.prog 21 #[.pointer (some ⟨g, 0, none⟩), .int .i64 key] w fun e w' => ∃ r', e = .returned (.bool b) ∧ DoorAt g seed (putB seed key B) r' ∧ Owned w0 w' (r' ++ F) := by
  subst hb; exact door_put key hr h
theorem d_has (key : Int) {b : Bool} (hb : hasB seed key B = b) (hr : DoorAt g seed B r) (h : Owned w0 w (r ++ F)) :
    Calls Try.prog 30 #[.pointer (some ⟨g, 0, none⟩), .int .i64 key] w fun e w' => e = .returned (.bool b) ∧ Owned w0 w' (r ++ F) := by
  subst hb; exact door_has key hr h
theorem d_size {n : Nat} (hn : B.length = n) (hr : DoorAt g seed B r) (h : Owned w0 w (r ++ F)) :
    Calls Try.prog 46 #[.pointer (some ⟨g, 0, none⟩)] w fun e w' => e = .returned (.int .i64 (n : Int)) ∧ w = w' := by
  subst hn; exact door_size hr h
end
end Go.Proofs.Ytachbhgfcdnhdaa
