/- Arrays of sixteen counters. -/
import Derived.Test.YtachbhgfcdnhdaaNib
import Derived.Test.YtachbhgfcdnhdaaSep
namespace Go.Proofs.Ytachbhgfcdnhdaa
open Go.RowKit NibPure Go.Sep
theorem arr_get (d : Nat → Nat) : ∀ k, k < 16 → (#[Value.int .i64 (d 0), .int .i64 (d 1), .int .i64 (d 2), .int .i64 (d 3), .int .i64 (d 4), .int .i64 (d 5), .int .i64 (d 6), .int .i64 (d 7), .int .i64 (d 8), .int .i64 (d 9), .int .i64 (d 10), .int .i64 (d 11), .int .i64 (d 12), .int .i64 (d 13), .int .i64 (d 14), .int .i64 (d 15)])[k]? = some (.int .i64 (d k))
  | 0, _ => rfl
  | 1, _ => rfl
  | 2, _ => rfl
  | 3, _ => rfl
  | 4, _ => rfl
  | 5, _ => rfl
  | 6, _ => rfl
  | 7, _ => rfl
  | 8, _ => rfl
  | 9, _ => rfl
  | 10, _ => rfl
  | 11, _ => rfl
  | 12, _ => rfl
  | 13, _ => rfl
  | 14, _ => rfl
  | 15, _ => rfl
  | n + 16, h => absurd h (by omega)
/-- the cells of an array of counters -/
def arrC (d : Nat → Nat) : Array Value := #[.int .i64 (d 0), .int .i64 (d 1), .int .i64 (d 2), .int .i64 (d 3), .int .i64 (d 4), .int .i64 (d 5), .int .i64 (d 6), .int .i64 (d 7), .int .i64 (d 8), .int .i64 (d 9), .int .i64 (d 10), .int .i64 (d 11), .int .i64 (d 12), .int .i64 (d 13), .int .i64 (d 14), .int .i64 (d 15)]
theorem arrC_get (d : Nat → Nat) (k : Nat) (hk : k < 16) : (arrC d)[k]? = some (.int .i64 (d k)) := arr_get d k hk
theorem arrC_size (d : Nat → Nat) : (arrC d).size = 16 := rfl
theorem arrC_one (d : Nat → Nat) : (arrC d).all (·.oneCell') = true := by simp [arrC, Value.oneCell']
theorem arr_eq (cur : Array Value) (d : Nat → Nat) (hs : cur.size = 16) (h : ∀ j, j < 16 → cur[j]? = some (.int .i64 (d j))) : cur = arrC d := by
  apply Array.ext_getElem?
  intro j
  by_cases hj : j < 16
  · rw [h j hj, arrC_get d j hj]
  · rw [Array.getElem?_eq_none (by omega), Array.getElem?_eq_none (by rw [arrC_size]; omega)]
theorem arr_set (d : Nat → Nat) (k n : Nat) (hk : k < 16) : (arrC d).setIfInBounds k (.int .i64 (n : Int)) = arrC (fun j => if j = k then n else d j) := by
  apply arr_eq _ _ (by rw [Array.size_setIfInBounds, arrC_size])
  intro j hj
  by_cases e : k = j
  · subst e
    rw [Array.getElem?_setIfInBounds_self_of_lt (by rw [arrC_size]; exact hk), if_pos rfl]
  · rw [Array.getElem?_setIfInBounds_ne e, if_neg (fun h => e h.symm), arrC_get d j hj]
def zeros16 : Array Value := #[.int .i64 0, .int .i64 0, .int .i64 0, .int .i64 0, .int .i64 0, .int .i64 0, .int .i64 0, .int .i64 0, .int .i64 0, .int .i64 0, .int .i64 0, .int .i64 0, .int .i64 0, .int .i64 0, .int .i64 0, .int .i64 0]
/-- a call that makes memory and tells -/
def TellsB (f : Nat) (args : Array Value) (v : Value) : Prop := ∀ w, Calls Try.prog f args w fun e w' => e = .returned v ∧ Below w.heap.size w w'
end Go.Proofs.Ytachbhgfcdnhdaa
