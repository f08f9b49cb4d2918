/- Layer 5: a filter, abstractly: its sketch, its door, its ages. -/
import Derived.Test.YtachbhgfcdnhdaaSketch9
import Derived.Test.YtachbhgfcdnhdaaDoorSmall
import Derived.Test.YtachbhgfcdnhdaaWhole
import Derived.Lib.QuietBelow
namespace Go.Proofs.Ytachbhgfcdnhdaa
open Go.RowKit NibPure Go.Sep DoorPure
structure FSt where
  N : Nat
  S : Nat → Nat → Nat
  B : List Bool
  A : Nat
def FSt.more (seed : Int) (n : Nat) (st : FSt) (key : Int) : Bool := anyS st.S (plS seed key (16 * n)) 4
def FSt.aged (seed : Int) (n : Nat) (st : FSt) (key : Int) : Bool := st.more seed n key && decide (160 * n ≤ st.N + 1)
/-- behind a key -/
def FSt.next (seed : Int) (n : Nat) (st : FSt) (key : Int) : FSt :=
  if hasB seed key st.B = true then
    ⟨numOf st.N (st.more seed n key) (st.aged seed n key), addOf st.S (plS seed key (16 * n)) (st.aged seed n key),
      if st.aged seed n key = true then List.replicate (putB seed key st.B).length false else putB seed key st.B, if st.aged seed n key = true then st.A + 1 else st.A⟩
  else ⟨st.N, st.S, putB seed key st.B, st.A⟩
def FSt.often (seed : Int) (n : Nat) (st : FSt) (key : Int) : Nat := mnS st.S (plS seed key (16 * n)) 4 + if hasB seed key st.B = true then 1 else 0
def FSt.new (cap : Int) : FSt := ⟨0, fun _ _ => 0, List.replicate (8 * capN ((16 * wordN cap : Nat) : Int)) false, 0⟩
def FilterAt (g : Nat) (seed : Int) (n : Nat) (st : FSt) (r : Own) : Prop :=
  ∃ gc gd gs gb rs rd, r = (g, .cells #[.pointer (some ⟨gc, 0, none⟩), .pointer (some ⟨gd, 0, none⟩), .int .i64 (st.A : Int)] 51 (0, 0)) :: (gc, .cells #[.pointer (some ⟨gs, 0, none⟩)] 44 (0, 0)) :: (gd, .cells #[.pointer (some ⟨gb, 0, none⟩)] 49 (0, 0)) :: (rs ++ rd) ∧
    SkAt gs seed n st.N st.S rs ∧ DoorAt gb seed st.B rd
section
variable {g n : Nat} {seed : Int} {st : FSt} {w0 w : World} {F r : Own}
/-- the three blocks ahead -/
def filB (g gc gd gs gb A : Nat) : Own := [(g, .cells #[.pointer (some ⟨gc, 0, none⟩), .pointer (some ⟨gd, 0, none⟩), .int .i64 (A : Int)] 51 (0, 0)), (gc, .cells #[.pointer (some ⟨gs, 0, none⟩)] 44 (0, 0)), (gd, .cells #[.pointer (some ⟨gb, 0, none⟩)] 49 (0, 0))]
theorem filB_0 {gc gd gs gb A : Nat} (h : Owned w0 w (filB g gc gd gs gb A ++ F)) : w.cell? ⟨g, 0, none⟩ = some (.pointer (some ⟨gc, 0, none⟩)) := (Owned.cell h 0).trans rfl
theorem filB_1 {gc gd gs gb A : Nat} (h : Owned w0 w (filB g gc gd gs gb A ++ F)) : w.cell? ⟨g, 1, none⟩ = some (.pointer (some ⟨gd, 0, none⟩)) := (Owned.cell h 1).trans rfl
theorem filB_2 {gc gd gs gb A : Nat} (h : Owned w0 w (filB g gc gd gs gb A ++ F)) : w.cell? ⟨g, 2, none⟩ = some (.int .i64 (A : Int)) := (Owned.cell h 2).trans rfl
theorem filB_c {gc gd gs gb A : Nat} (h : Owned w0 w (filB g gc gd gs gb A ++ F)) : w.cell? ⟨gc, 0, none⟩ = some (.pointer (some ⟨gs, 0, none⟩)) := (Owned.cell h.tail 0).trans rfl
theorem filB_d {gc gd gs gb A : Nat} (h : Owned w0 w (filB g gc gd gs gb A ++ F)) : w.cell? ⟨gd, 0, none⟩ = some (.pointer (some ⟨gb, 0, none⟩)) := (Owned.cell h.tail.tail 0).trans rfl
theorem filB_free {gc gd gs gb A : Nat} (h : Owned w0 w (filB g gc gd gs gb A ++ F)) : w.frozen? ⟨g, 2, none⟩ = false := Owned.frozen h 2
theorem filB_set {gc gd gs gb A : Nat} (h : Owned w0 w (filB g gc gd gs gb A ++ F)) (v : Nat) : Owned w0 (w.setCell ⟨g, 2, none⟩ (.int .i64 (v : Int))) (filB g gc gd gs gb v ++ F) := Owned.set h 2 _
theorem FilterAt.open_ (hr : FilterAt g seed n st r) : ∃ gc gd gs gb rs rd, r = filB g gc gd gs gb st.A ++ (rs ++ rd) ∧ SkAt gs seed n st.N st.S rs ∧ DoorAt gb seed st.B rd := hr
theorem FilterAt.shut {gc gd gs gb N A : Nat} {S : Nat → Nat → Nat} {B : List Bool} {rs rd : Own} (hs : SkAt gs seed n N S rs) (hd : DoorAt gb seed B rd) : FilterAt g seed n ⟨N, S, B, A⟩ (filB g gc gd gs gb A ++ (rs ++ rd)) := ⟨gc, gd, gs, gb, rs, rd, rfl, hs, hd⟩
end
end Go.Proofs.Ytachbhgfcdnhdaa
