/- The door's bits, abstractly; the statements' small case comes out right. -/
import Derived.Test.YthjdmgakgpcbfaaDoor3
import Derived.Test.YthjdmgakgpcbfaaReads
namespace Go.Proofs.Ythjdmgakgpcbfaa
open Go.RowKit Go.Sep DoorPure
def putB (seed key : Int) (B : List Bool) : List Bool := (B.set (plc seed key 0 B.length) true).set (plc seed key 1 B.length) true
def hasB (seed key : Int) (B : List Bool) : Bool := B.getD (plc seed key 0 B.length) false && B.getD (plc seed key 1 B.length) false
theorem putB_len (s k : Int) (B : List Bool) : (putB s k B).length = B.length := by simp [putB]
theorem getD_put (s k : Int) {B : List Bool} (hB : 1 ≤ B.length) (t : Nat) : (putB s k B).getD t false = true ↔ (B.getD t false = true ∨ t = plc s k 0 B.length ∨ t = plc s k 1 B.length) := by
  have p0 := plc_lt s k 0 hB
  have p1 := plc_lt s k 1 hB
  unfold putB
  generalize plc s k 0 B.length = i at *
  generalize plc s k 1 B.length = j at *
  rw [getD_setB, getD_setB, List.length_set]
  by_cases h1 : j = t
  · subst h1; simp [p1]
  · rw [if_neg (fun h => h1 h.1)]
    by_cases h2 : i = t
    · subst h2; simp [p0]
    · rw [if_neg (fun h => h2 h.1)]
      constructor
      · exact Or.inl
      · rintro (h | h | h)
        · exact h
        · exact absurd h.symm h2
        · exact absurd h.symm h1
theorem hasB_iff (s k : Int) (B : List Bool) : hasB s k B = true ↔ (B.getD (plc s k 0 B.length) false = true ∧ B.getD (plc s k 1 B.length) false = true) := by
  unfold hasB; rw [Bool.and_eq_true]
theorem has_put (s k : Int) {B : List Bool} (hB : 1 ≤ B.length) : hasB s k (putB s k B) = true := by
  rw [hasB_iff, putB_len, getD_put s k hB, getD_put s k hB]
  exact ⟨Or.inr (Or.inl rfl), Or.inr (Or.inr rfl)⟩
theorem has_mono (s k k' : Int) {B : List Bool} (hB : 1 ≤ B.length) (h : hasB s k B = true) : hasB s k (putB s k' B) = true := by
  rw [hasB_iff] at h
  rw [hasB_iff, putB_len, getD_put s k' hB, getD_put s k' hB]
  exact ⟨Or.inl h.1, Or.inl h.2⟩
theorem has_zero (s k : Int) (n : Nat) : hasB s k (List.replicate n false) = false := by
  have e : ∀ i, (List.replicate n false).getD i false = false := by
    intro i
    simp only [List.getD, List.getElem?_replicate]
    split <;> rfl
  unfold hasB
  rw [e, e]; rfl
theorem cnt_put (s k : Int) {B : List Bool} (hB : 1 ≤ B.length) : cnt B ≤ cnt (putB s k B) ∧ cnt (putB s k B) ≤ cnt B + 2 ∧ (hasB s k B = true → cnt (putB s k B) = cnt B) ∧ (hasB s k B = false → cnt B + 1 ≤ cnt (putB s k B)) := by
  have p0 := plc_lt s k 0 hB
  have p1 := plc_lt s k 1 hB
  unfold putB hasB
  generalize plc s k 0 B.length = i at *
  generalize plc s k 1 B.length = j at *
  rw [cnt_set _ _ (by rw [List.length_set]; exact p1), cnt_set _ _ p0, getD_setB]
  by_cases e : i = j
  · subst e
    cases hi : B.getD i false <;> simp [p0]
  · cases hi : B.getD i false <;> cases hj : B.getD j false <;> simp only [e, false_and, if_false] <;> simp <;> omega
section
variable {g : Nat} {seed : Int} {w0 w : World} {F r : Own} {B : List Bool}
theorem DoorAt.le (hr : DoorAt g seed B r) : 64 ≤ B.length ∧ B.length ≤ 524288 := by
  obtain ⟨b, ws, rfl, hw, h1, h2⟩ := hr
  rw [hw.len]; omega
theorem d_put (key : Int) {b : Bool} (hb : hasB seed key B = b) (hr : DoorAt g seed B r) (h : Owned w0 w (r ++ F)) :
    Calls Try.prog 13 #[.pointer (some ⟨g, 0, none⟩), .int .i64 key] w fun e w' => ∃ r', e = .returned (.bool b) ∧ DoorAt g seed (putB seed key B) r' ∧ Owned w0 w' (r' ++ F) := by
  subst hb; exact door_put key hr h
theorem d_has (key : Int) {b : Bool} (hb : hasB seed key B = b) (hr : DoorAt g seed B r) (h : Owned w0 w (r ++ F)) :
    Calls Try.prog 17 #[.pointer (some ⟨g, 0, none⟩), .int .i64 key] w fun e w' => e = .returned (.bool b) ∧ Owned w0 w' (r ++ F) := by
  subst hb; exact door_has key hr h
theorem d_ones {n : Nat} (hn : cnt B = n) (hr : DoorAt g seed B r) (h : Owned w0 w (r ++ F)) :
    Calls Try.prog 15 #[.pointer (some ⟨g, 0, none⟩)] w fun e w' => e = .returned (.int .i64 (n : Int)) ∧ w = w' := by
  subst hn; exact door_ones hr h
theorem d_size {n : Nat} (hn : B.length = n) (hr : DoorAt g seed B r) (h : Owned w0 w (r ++ F)) :
    Calls Try.prog 10 #[.pointer (some ⟨g, 0, none⟩)] w fun e w' => e = .returned (.int .i64 (n : Int)) ∧ w = w' := by
  subst hn; exact door_size hr h
end
set_option maxHeartbeats 1600000 in
theorem small_calls (w0 : World) : Calls Try.prog 7 #[] w0 fun e w' => e = .returned (.bool true) ∧ Below w0.heap.size w0 w' := by
  have hO0 := Owned.nil w0
  have h8 : 8 * capN 10 = 128 := by decide
  have c0 := door_new 10 1 hO0
  rw [h8] at c0
  have hl : 1 ≤ (List.replicate 128 false).length := by rw [List.length_replicate]; omega
  have hl1 : 1 ≤ (putB 1 5 (List.replicate 128 false)).length := by rw [putB_len]; exact hl
  have z0 := has_zero 1 5 128
  have z1 := has_put 1 5 hl
  have z2 := has_mono 1 5 5 hl1 z1
  have n1 := cnt_put 1 5 hl
  have n2 := (cnt_put 1 5 hl1).2.2.1 z1
  rw [cnt_zero] at n1
  have n3 := n1.2.2.2 z0
  have e2 : (putB 1 5 (putB 1 5 (List.replicate 128 false))).length = 128 := by rw [putB_len, putB_len, List.length_replicate]
  obtain ⟨n, hn, m1, m2⟩ : ∃ n : Nat, cnt (putB 1 5 (putB 1 5 (List.replicate 128 false))) = n ∧ 1 ≤ n ∧ n ≤ 2 := ⟨_, rfl, by omega, by omega⟩
  clear n1 n2 n3 hl hl1 h8
  have Z0 := Lib.hid z0
  have Z1 := Lib.hid z1
  have Z2 := Lib.hid z2
  have HN := Lib.hid hn
  have E2 := Lib.hid e2
  have K := Lib.hid (cnt_zero 128)
  have L := Lib.hid (show (List.replicate 128 false).length = 128 from List.length_replicate)
  clear z0 z1 z2 hn e2
  generalize hB0 : List.replicate 128 false = B0 at *
  go_enter Try.func7, Try.ntmps7
  go_wp2_with fail
  go_at_call 8
  refine (c0).mono ?_
  rintro e w1 ⟨g, r1, rfl, hr1, hO1⟩
  go_wp2_with fail
  go_at_call 13
  refine (d_put 5 Z0.out hr1 hO1).mono ?_
  rintro e w2 ⟨r2, rfl, hr2, hO2⟩
  go_wp2_with fail
  go_at_call 13
  refine (d_put 5 Z1.out hr2 hO2).mono ?_
  rintro e w3 ⟨r3, rfl, hr3, hO3⟩
  go_wp2_with fail
  go_at_call 15
  refine (d_ones HN.out hr3 hO3).mono ?_
  rintro e w3 ⟨rfl, rfl⟩
  go_wp2_with fail
  go_at_call 17
  refine (d_has 5 Z2.out hr3 hO3).mono ?_
  rintro e w4 ⟨rfl, hO4⟩
  go_wp2_with fail
  go_at_call 11
  refine (door_clear hr3 hO4).mono ?_
  rintro e w5 ⟨r5, rfl, hr5, hO5⟩
  rw [E2.out, hB0] at hr5
  clear hr1 hO1 hr2 hO2 hr3 hO3 hO4
  go_wp2_with fail
  go_at_call 15
  refine (d_ones K.out hr5 hO5).mono ?_
  rintro e w5 ⟨rfl, rfl⟩
  go_wp2_with fail
  go_at_call 10
  refine (d_size L.out hr5 hO5).mono ?_
  rintro e w5 ⟨rfl, rfl⟩
  go_wp2_with fail
  go_at_call 17
  refine (d_has 5 Z0.out hr5 hO5).mono ?_
  rintro e w6 ⟨rfl, hO6⟩
  go_wp2_with fail
  go_ret
  exact ⟨rfl, hO6.below⟩
end Go.Proofs.Ythjdmgakgpcbfaa
