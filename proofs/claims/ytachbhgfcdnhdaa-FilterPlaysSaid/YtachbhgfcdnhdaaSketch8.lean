/- Layer 3: a row's counters, the walk. -/
import Derived.Test.YtachbhgfcdnhdaaSketch7
namespace Go.Proofs.Ytachbhgfcdnhdaa
open Go.RowKit NibPure Go.Sep
section
variable {g n N : Nat} {seed : Int} {rb : Nat → Nat} {rw : Nat → List Nat} {w0 w : World} {F : Own}
theorem add_zero_off (b j : Nat) : (⟨b, 0, none⟩ : Addr).add j = ⟨b, j, none⟩ := by
  simp [Addr.add]
  exact fun h => h.symm
def RowRel (w0 : World) (S : Own) (rw : Nat → List Nat) (k q : Nat) (v : Value) (w : World) : Prop := ∃ r, Row 3 1 v (16 * q) (rowL rw k q) r ∧ Owned w0 w (r ++ S)
end
end Go.Proofs.Ytachbhgfcdnhdaa
