/- Two arrays of numbers that are one and the same are equal, as Go asks it. -/
import Derived.Test.YtfjnimlmedmdhaaProg
import Derived.WalkKit
import Derived.ChangeKeysEq
namespace Go.ArrEq
open Go
section
variable {P : Program}
theorem items_same (w : World) (d : Nat) {e : TypeId} {k : IntKind} (he : P.underlying e = some (.int k)) (hp : P.plainKey e = true) (xs : Array Value) (hc : P.cellsOf e = 1) : ∀ (is : List Nat), (∀ i ∈ is, ∃ z, xs[i]? = some (.int k z)) →
    (Op.eqItems (d + 1) e (P.cellsOf e) xs xs is).run P w = .ok true w
  | [], _ => by simp [Op.eqItems]
  | i :: is, h => by
    obtain ⟨z, hz⟩ := h i (by simp)
    have hpart := run_part_plain w hp (off := i * P.cellsOf e) (v := .int k z) (by rw [hc, Nat.mul_one]; exact hz)
    have ih := items_same w d he hp xs hc is (fun j hj => h j (by simp [hj]))
    simp only [Op.eqItems, Sem.run_bind, hpart, Result.andThen_ok, run_equalIn_int w d e k k z z he, beq_self_eq_true, Bool.not_true, Bool.false_eq_true, if_false, ih]
theorem eq_same (w : World) {t e : TypeId} {n : Nat} {k : IntKind} {i : TypeInfo} (hu : P.underlying t = some (.array n e)) (he : P.underlying e = some (.int k)) (hi : P.info? e = some i) (hp : P.plainKey e = true) (hc : P.cellsOf e = 1)
    (xs : Array Value) (h : ∀ j, j < n → ∃ z, xs[j]? = some (.int k z)) : (Op.equalIn 10000 t (.agg xs) (.agg xs)).run P w = .ok true w := by
  rw [run_equalIn_array w 9999 xs xs hu hi]
  exact items_same w 9998 he hp xs hc _ (fun j hj => h j (List.mem_range.1 hj))
end
end Go.ArrEq
