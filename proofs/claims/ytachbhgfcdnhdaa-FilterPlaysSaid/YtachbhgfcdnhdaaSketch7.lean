/- Layer 3: a row's counters. -/
import Derived.Test.YtachbhgfcdnhdaaSketch6
namespace Go.Proofs.Ytachbhgfcdnhdaa
open Go.RowKit NibPure Go.Sep
theorem infoI : (Try.prog.info? 3).map (fun i => (i.zero, i.size, i.bytes)) = some (some (.int .i64 0), 1, 8) := by kernel_rfl
/-- the first counters of a row -/
def rowL (rw : Nat → List Nat) (k q : Nat) : List Value := (List.range (16 * q)).map (fun c => Value.int .i64 (cS rw k c : Nat))
theorem rowL_len (rw : Nat → List Nat) (k q : Nat) : (rowL rw k q).length = 16 * q := by simp [rowL]
theorem rowL_succ (rw : Nat → List Nat) (k q : Nat) : rowL rw k (q + 1) = rowL rw k q ++ (arrC (dg ((rw k).getD q 0))).toList := by
  have e : ∀ j, j < 16 → cS rw k (16 * q + j) = dg ((rw k).getD q 0) j := fun j hj => by
    unfold cS
    rw [show (16 * q + j) / 16 = q by omega, show (16 * q + j) % 16 = j by omega]
  unfold rowL
  rw [show 16 * (q + 1) = 16 * q + 16 by omega, List.range_add, List.map_append, List.map_map]
  congr 1
  have e2 : (List.range 16).map ((fun c => Value.int .i64 ((cS rw k c : Nat) : Int)) ∘ fun x => 16 * q + x) = (List.range 16).map (fun j => Value.int .i64 ((dg ((rw k).getD q 0) j : Nat) : Int)) :=
    List.map_congr_left (fun j hj => by show Value.int .i64 ((cS rw k (16 * q + j) : Nat) : Int) = _; rw [e j (List.mem_range.1 hj)])
  rw [e2]
  rfl
section
variable {g n N : Nat} {seed : Int} {rb : Nat → Nat} {rw : Nat → List Nat} {w0 w : World} {F : Own}
end
end Go.Proofs.Ytachbhgfcdnhdaa
