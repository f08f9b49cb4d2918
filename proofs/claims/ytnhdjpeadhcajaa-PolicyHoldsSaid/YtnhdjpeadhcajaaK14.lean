/- Merged texts: The door's bits, abstractly; the statements' small case comes out right. Layer 5: a filter, abstractly: its sketch, its door, its ages. -/
import Derived.Test.YtnhdjpeadhcajaaK09
import Derived.Test.YtnhdjpeadhcajaaK05
import Derived.Test.YtnhdjpeadhcajaaK13
import Derived.Lib.QuietBelow
namespace Go.Proofs.Ytnhdjpeadhcajaa
open Go.RowKit Go.Sep DoorPure
def putB (seed key : Int) (B : List Bool) : List Bool := (B.set (plc seed key 0 B.length) true).set (plc seed key 1 B.length) true
def hasB (seed key : Int) (B : List Bool) : Bool := B.getD (plc seed key 0 B.length) false && B.getD (plc seed key 1 B.length) false
theorem putB_len (s k : Int) (B : List Bool) : (putB s k B).length = B.length := by simp [putB]
theorem getD_put (s k : Int) {B : List Bool} (hB : 1 ≤ B.length) (t : Nat) : (putB s k B).getD t false = true ↔ (B.getD t false = true ∨ t = plc s k 0 B.length ∨ t = plc s k 1 B.length) := by
  have p0 := plc_lt s k 0 hB
  have p1 := plc_lt s k 1 hB
  unfold putB
  generalize plc s k 0 B.length = i at *
  generalize plc s k 1 B.length = j at *
  rw [getD_setB, getD_setB, List.length_set]
  by_cases h1 : j = t
  · subst h1; simp [p1]
  · rw [if_neg (fun h => h1 h.1)]
    by_cases h2 : i = t
    · subst h2; simp [p0]
    · rw [if_neg (fun h => h2 h.1)]
      constructor
      · exact Or.inl
      · rintro (h | h | h)
        · exact h
        · exact absurd h.symm h2
        · exact absurd h.symm h1
theorem hasB_iff (s k : Int) (B : List Bool) : hasB s k B = true ↔ (B.getD (plc s k 0 B.length) false = true ∧ B.getD (plc s k 1 B.length) false = true) := by
  unfold hasB; rw [Bool.and_eq_true]
theorem has_put (s k : Int) {B : List Bool} (hB : 1 ≤ B.length) : hasB s k (putB s k B) = true := by
  rw [hasB_iff, putB_len, getD_put s k hB, getD_put s k hB]
  exact ⟨Or.inr (Or.inl rfl), Or.inr (Or.inr rfl)⟩
theorem has_mono (s k k' : Int) {B : List Bool} (hB : 1 ≤ B.length) (h : hasB s k B = true) : hasB s k (putB s k' B) = true := by
  rw [hasB_iff] at h
  rw [hasB_iff, putB_len, getD_put s k' hB, getD_put s k' hB]
  exact ⟨Or.inl h.1, Or.inl h.2⟩
theorem has_zero (s k : Int) (n : Nat) : hasB s k (List.replicate n false) = false := by
  have e : ∀ i, (List.replicate n false).getD i false = false := by
    intro i
    simp only [List.getD, List.getElem?_replicate]
    split <;> rfl
  unfold hasB
  rw [e, e]; rfl
theorem cnt_put (s k : Int) {B : List Bool} (hB : 1 ≤ B.length) : cnt B ≤ cnt (putB s k B) ∧ cnt (putB s k B) ≤ cnt B + 2 ∧ (hasB s k B = true → cnt (putB s k B) = cnt B) ∧ (hasB s k B = false → cnt B + 1 ≤ cnt (putB s k B)) := by
  have p0 := plc_lt s k 0 hB
  have p1 := plc_lt s k 1 hB
  unfold putB hasB
  generalize plc s k 0 B.length = i at *
  generalize plc s k 1 B.length = j at *
  rw [cnt_set _ _ (by rw [List.length_set]; exact p1), cnt_set _ _ p0, getD_setB]
  by_cases e : i = j
  · subst e
    cases hi : B.getD i false <;> simp [p0]
  · cases hi : B.getD i false <;> cases hj : B.getD j false <;> simp only [e, false_and, if_false] <;> simp <;> omega
section
variable {g : Nat} {seed : Int} {w0 w : World} {F r : Own} {B : List Bool}
theorem DoorAt.le (hr : DoorAt g seed B r) : 64 ≤ B.length ∧ B.length ≤ 524288 := by
  obtain ⟨b, ws, rfl, hw, h1, h2⟩ := hr
  rw [hw.len]; omega
theorem d_put (key : Int) {b : Bool} (hb : hasB seed key B = b) (hr : DoorAt g seed B r) (h : Owned w0 w (r ++ F)) :
    Calls Try.prog 44 #[.pointer (some ⟨g, 0, none⟩), .int .i64 key] w fun e w' => ∃ r', e = .returned (.bool b) ∧ DoorAt g seed (putB seed key B) r' ∧ Owned w0 w' (r' ++ F) := by
  subst hb; exact door_put key hr h
theorem d_has (key : Int) {b : Bool} (hb : hasB seed key B = b) (hr : DoorAt g seed B r) (h : Owned w0 w (r ++ F)) :
    Calls Try.prog 62 #[.pointer (some ⟨g, 0, none⟩), .int .i64 key] w fun e w' => e = .returned (.bool b) ∧ Owned w0 w' (r ++ F) := by
  subst hb; exact door_has key hr h
theorem d_size {n : Nat} (hn : B.length = n) (hr : DoorAt g seed B r) (h : Owned w0 w (r ++ F)) :
    Calls Try.prog 82 #[.pointer (some ⟨g, 0, none⟩)] w fun e w' => e = .returned (.int .i64 (n : Int)) ∧ w = w' := by
  subst hn; exact door_size hr h
end
end Go.Proofs.Ytnhdjpeadhcajaa
namespace Go.Proofs.Ytnhdjpeadhcajaa
open Go.RowKit NibPure Go.Sep DoorPure
structure FSt where
  N : Nat
  S : Nat → Nat → Nat
  B : List Bool
  A : Nat
def FSt.more (seed : Int) (n : Nat) (st : FSt) (key : Int) : Bool := anyS st.S (plS seed key (16 * n)) 4
def FSt.aged (seed : Int) (n : Nat) (st : FSt) (key : Int) : Bool := st.more seed n key && decide (160 * n ≤ st.N + 1)
/-- behind a key -/
def FSt.next (seed : Int) (n : Nat) (st : FSt) (key : Int) : FSt :=
  if hasB seed key st.B = true then
    ⟨numOf st.N (st.more seed n key) (st.aged seed n key), addOf st.S (plS seed key (16 * n)) (st.aged seed n key),
      if st.aged seed n key = true then List.replicate (putB seed key st.B).length false else putB seed key st.B, if st.aged seed n key = true then st.A + 1 else st.A⟩
  else ⟨st.N, st.S, putB seed key st.B, st.A⟩
def FSt.often (seed : Int) (n : Nat) (st : FSt) (key : Int) : Nat := mnS st.S (plS seed key (16 * n)) 4 + if hasB seed key st.B = true then 1 else 0
def FSt.new (cap : Int) : FSt := ⟨0, fun _ _ => 0, List.replicate (8 * capN ((16 * wordN cap : Nat) : Int)) false, 0⟩
def FilterAt (g : Nat) (seed : Int) (n : Nat) (st : FSt) (r : Own) : Prop :=
  ∃ gc gd gs gb rs rd, r = (g, .cells #[.pointer (some ⟨gc, 0, none⟩), .pointer (some ⟨gd, 0, none⟩), .int .i64 (st.A : Int)] 80 (0, 0)) :: (gc, .cells #[.pointer (some ⟨gs, 0, none⟩)] 73 (0, 0)) :: (gd, .cells #[.pointer (some ⟨gb, 0, none⟩)] 78 (0, 0)) :: (rs ++ rd) ∧
    SkAt gs seed n st.N st.S rs ∧ DoorAt gb seed st.B rd
section
variable {g n : Nat} {seed : Int} {st : FSt} {w0 w : World} {F r : Own}
/-- the three blocks ahead -/
def filB (g gc gd gs gb A : Nat) : Own := [(g, .cells #[.pointer (some ⟨gc, 0, none⟩), .pointer (some ⟨gd, 0, none⟩), .int .i64 (A : Int)] 80 (0, 0)), (gc, .cells #[.pointer (some ⟨gs, 0, none⟩)] 73 (0, 0)), (gd, .cells #[.pointer (some ⟨gb, 0, none⟩)] 78 (0, 0))]
theorem filB_0 {gc gd gs gb A : Nat} (h : Owned w0 w (filB g gc gd gs gb A ++ F)) : w.cell? ⟨g, 0, none⟩ = some (.pointer (some ⟨gc, 0, none⟩)) := (Owned.cell h 0).trans rfl
theorem filB_1 {gc gd gs gb A : Nat} (h : Owned w0 w (filB g gc gd gs gb A ++ F)) : w.cell? ⟨g, 1, none⟩ = some (.pointer (some ⟨gd, 0, none⟩)) := (Owned.cell h 1).trans rfl
theorem filB_2 {gc gd gs gb A : Nat} (h : Owned w0 w (filB g gc gd gs gb A ++ F)) : w.cell? ⟨g, 2, none⟩ = some (.int .i64 (A : Int)) := (Owned.cell h 2).trans rfl
theorem filB_c {gc gd gs gb A : Nat} (h : Owned w0 w (filB g gc gd gs gb A ++ F)) : w.cell? ⟨gc, 0, none⟩ = some (.pointer (some ⟨gs, 0, none⟩)) := (Owned.cell h.tail 0).trans rfl
theorem filB_d {gc gd gs gb A : Nat} (h : Owned w0 w (filB g gc gd gs gb A ++ F)) : w.cell? ⟨gd, 0, none⟩ = some (.pointer (some ⟨gb, 0, none⟩)) := (Owned.cell h.tail.tail 0).trans rfl
theorem filB_free {gc gd gs gb A : Nat} (h : Owned w0 w (filB g gc gd gs gb A ++ F)) : w.frozen? ⟨g, 2, none⟩ = false := Owned.frozen h 2
theorem filB_set {gc gd gs gb A : Nat} (h : Owned w0 w (filB g gc gd gs gb A ++ F)) (v : Nat) : Owned w0 (w.setCell ⟨g, 2, none⟩ (.int .i64 (v : Int))) (filB g gc gd gs gb v ++ F) := Owned.set h 2 _
theorem FilterAt.open_ (hr : FilterAt g seed n st r) : ∃ gc gd gs gb rs rd, r = filB g gc gd gs gb st.A ++ (rs ++ rd) ∧ SkAt gs seed n st.N st.S rs ∧ DoorAt gb seed st.B rd := hr
theorem FilterAt.shut {gc gd gs gb N A : Nat} {S : Nat → Nat → Nat} {B : List Bool} {rs rd : Own} (hs : SkAt gs seed n N S rs) (hd : DoorAt gb seed B rd) : FilterAt g seed n ⟨N, S, B, A⟩ (filB g gc gd gs gb A ++ (rs ++ rd)) := ⟨gc, gd, gs, gb, rs, rd, rfl, hs, hd⟩
end
end Go.Proofs.Ytnhdjpeadhcajaa
