/- Contracts of layer 2's functions: all counters at once. -/
import Derived.Test.YtpdboglgjpmcdaaNibArr
namespace Go.Proofs.Ytpdboglgjpmcdaa
open Go.RowKit NibPure Go.Sep
/-- an array whose first k places hold the counters -/
def Filled (x k : Nat) (cur : Array Value) : Prop := cur.size = 16 ∧ ∀ j, j < k → cur[j]? = some (.int .i64 (dg x j))
def AllRel (w0 : World) (g x k : Nat) (w : World) : Prop := ∃ cur, Filled x k cur ∧ Owned w0 w [(g, .cells cur 55 (0, 0))]
set_option maxHeartbeats 1600000 in
set_option maxRecDepth 100000 in
theorem all_calls (x : Nat) (hx : x < 18446744073709551616) (w0 : World) : Calls Try.prog 28 #[.int .u64 x] w0 fun e w' => e = .returned (.agg (arrC (dg x))) ∧ Below w0.heap.size w0 w' := by
  have hO := (Owned.nil w0).alloc (.cells #[.int .i64 0, .int .i64 0, .int .i64 0, .int .i64 0, .int .i64 0, .int .i64 0, .int .i64 0, .int .i64 0, .int .i64 0, .int .i64 0, .int .i64 0, .int .i64 0, .int .i64 0, .int .i64 0, .int .i64 0, .int .i64 0] 55)
  go_enter Try.func28, Try.ntmps28
  go_wp2_with fail
  go_loopw [4] (fun x4 wr => ∃ k : Nat, k ≤ 16 ∧ x4 = .int .i64 k ∧ Hid (AllRel w0 w0.heap.size x k wr)) (fun x4 _ => 16 - (intOf x4).toNat)
  case atStart => exact ⟨0, by omega, rfl, _, ⟨rfl, fun j hj => by omega⟩, hO⟩
  case round =>
    obtain ⟨k, hk, rfl, hrel⟩ := hrel
    obtain ⟨cur, ⟨hsz, hcur⟩, hO⟩ := hrel.out
    clear hrel
    by_cases hlt : k < 16
    · have hlv := (Owned.cell hO k).trans (Array.getElem?_eq_getElem (show k < cur.size by omega))
      have hfz := Owned.frozen hO k
      have hlt2 := Owned.lt hO
      have c1 := get_in x hx k hlt
      have HO := Lib.hid hO
      have HC := Lib.hid hcur
      clear hO hcur
      go_wp2_with fail
      go_at_call 26
      refine (c1 _).mono ?_
      rintro e w1 ⟨rfl, rfl⟩
      go_wp2_with fail
      go_roundw
      case rel =>
        refine ⟨k + 1, by omega, by go_num, cur.setIfInBounds k (.int .i64 (dg x k)), ⟨by simp [hsz], fun j hj => ?_⟩, HO.out.set k _⟩
        by_cases e : k = j
        · subst e
          rw [Array.getElem?_setIfInBounds_self_of_lt (by omega)]
        · rw [Array.getElem?_setIfInBounds_ne e]
          exact HC.out j (by omega)
      case measure => simp [intOf]; omega
    · obtain rfl : k = 16 := by omega
      obtain rfl := arr_eq cur (dg x) hsz hcur
      clear hsz hcur
      have HO := Lib.hid hO
      clear hO
      go_wp2_with (first
        | (refine load_whole rfl _ _ rfl w0.heap.size rfl HO.out _ und_arr rfl (info_arr_of _ rfl) ?_)
        | (refine store_whole rfl _ _ _ rfl w0.heap.size rfl HO.out (arrC (dg x)) rfl rfl (info_arr_of _ rfl) (arrC_one _) ?_; intro w2 hO2; have HO2 := Lib.hid hO2; clear hO2))
      exact bodyPost_ret (results_cell_row rfl _ _ w0.heap.size _ (arrC (dg x)) _ _ rfl HO2.out.head und_arr rfl (info_arr_of _ rfl)) rfl ⟨rfl, HO2.out.below⟩
end Go.Proofs.Ytpdboglgjpmcdaa
