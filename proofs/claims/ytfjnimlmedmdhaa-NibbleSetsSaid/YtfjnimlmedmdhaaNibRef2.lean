/- Contracts of the document's layer 2: all counters, one set, halves, sums, odd ones. -/
import Derived.Test.YtfjnimlmedmdhaaNibRef
import Derived.Test.YtfjnimlmedmdhaaPop
namespace Go.Proofs.Ytfjnimlmedmdhaa
open Go.RowKit NibPure Go.Sep
def RAllRel (w0 : World) (x k : Nat) (w : World) : Prop := ∃ cur, Filled x k cur ∧ Owned w0 w [(w0.heap.size + 1, .cells cur 28 (0, 0)), (w0.heap.size, .cells zeros16 28 (0, 0))]
set_option maxHeartbeats 1600000 in
set_option maxRecDepth 100000 in
theorem ref_all (x : Nat) (hx : x < 18446744073709551616) : TellsB 17 #[.int .u64 x] (.agg (arrC (dg x))) := by
  intro w0
  have hO := ((Owned.nil w0).alloc (.cells zeros16 28)).alloc (.cells zeros16 28)
  have hsz : (w0.alloc (.cells zeros16 28)).heap.size = w0.heap.size + 1 := by simp
  rw [hsz] at hO
  clear hsz
  have HO := Lib.hid hO
  clear hO
  go_enter Try.func17, Try.ntmps17
  go_wp2_with fail
  go_loopw [4] (fun x4 wr => ∃ k : Nat, k ≤ 16 ∧ x4 = .int .i64 k ∧ Hid (RAllRel w0 x k wr)) (fun x4 _ => 16 - (intOf x4).toNat)
  case atStart => exact ⟨0, by omega, rfl, _, ⟨rfl, fun j hj => by omega⟩, HO.out⟩
  case round =>
    obtain ⟨k, hk, rfl, hrel⟩ := hrel
    obtain ⟨cur, ⟨hsz, hcur⟩, hO⟩ := hrel.out
    clear hrel HO
    by_cases hlt : k < 16
    · have hlv := (Owned.cell hO k).trans (Array.getElem?_eq_getElem (show k < cur.size by omega))
      have hfz := Owned.frozen hO k
      have hlt2 := Owned.lt hO
      have c1 := ref_get_in x hx k hlt
      have HO := Lib.hid hO
      have HC := Lib.hid hcur
      clear hO hcur
      go_wp2_with fail
      go_at_call 13
      refine (c1 _).mono ?_
      rintro e w1 ⟨rfl, rfl⟩
      go_wp2_with fail
      go_roundw
      case rel =>
        refine ⟨k + 1, by omega, by go_num, cur.setIfInBounds k (.int .i64 (dg x k)), ⟨by simp [hsz], fun j hj => ?_⟩, HO.out.set k _⟩
        by_cases e : k = j
        · subst e
          rw [Array.getElem?_setIfInBounds_self_of_lt (by omega)]
        · rw [Array.getElem?_setIfInBounds_ne e]
          exact HC.out j (by omega)
      case measure => simp [intOf]; omega
    · obtain rfl : k = 16 := by omega
      obtain rfl := arr_eq cur (dg x) hsz hcur
      clear hsz hcur
      have HO := Lib.hid hO
      clear hO
      go_wp2_with (first
        | (refine load_whole rfl _ _ rfl (w0.heap.size + 1) rfl HO.out _ und_arr rfl (info_arr_of _ rfl) ?_)
        | (refine store_whole rfl _ _ _ rfl w0.heap.size rfl HO.out.swap (arrC (dg x)) rfl rfl (info_arr_of _ rfl) (arrC_one _) ?_; intro w2 hO2; have HO2 := Lib.hid hO2; clear hO2))
      exact bodyPost_ret (results_cell_row rfl _ _ w0.heap.size _ (arrC (dg x)) _ _ rfl HO2.out.head und_arr rfl (info_arr_of _ rfl)) rfl ⟨rfl, HO2.out.below⟩
/-- set -/
def refSet (x i : Nat) (m : Nat) : Nat := pk (fun j => if j = i then m else dg x j) 16
theorem refSet_eq (x i m : Nat) (hx : x < 18446744073709551616) (hi : i < 16) (hm : m < 16) : refSet x i m = st x i m := by
  have hd : ∀ j, (fun j => if j = i then m else dg x j) j < 16 := fun j => by
    show (if j = i then m else dg x j) < 16
    split
    · exact hm
    · exact dg_lt x j
  refine dg_ext 16 (pk_lt16 _ hd) (st_lt (m := 16) hx hi hm) fun k hk => ?_
  rw [refSet, pk_all _ hd k hk, dg_st _ _ _ hm]
theorem pk_self (x : Nat) (hx : x < 18446744073709551616) : pk (dg x) 16 = x :=
  dg_ext 16 (pk_lt16 _ (dg_lt x)) hx fun k hk => pk_all _ (dg_lt x) k hk
theorem upto15 (n : Int) : ∃ m : Nat, m < 16 ∧ (m : Int) = min (max n 0) 15 := ⟨(min (max n 0) 15).toNat, by omega, by omega⟩
theorem set_pack (x i m : Nat) (hx : x < 18446744073709551616) (hi : i < 16) (hm : m < 16) (v : Int) (hv : v = m) :
    TellsB 25 #[.agg ((arrC (dg x)).setIfInBounds i (.int .i64 v))] (.int .u64 (st x i m)) := by
  subst hv
  have hd : ∀ j, (fun j => if j = i then m else dg x j) j < 16 := fun j => by
    show (if j = i then m else dg x j) < 16
    split
    · exact hm
    · exact dg_lt x j
  rw [arr_set _ _ _ hi, ← refSet_eq x i m hx hi hm]
  exact pack_calls _ hd
set_option maxHeartbeats 1600000 in
set_option maxRecDepth 100000 in
theorem ref_set_in (x : Nat) (hx : x < 18446744073709551616) (i : Nat) (n : Int) (hi : i < 16) : TellsB 15 #[.int .u64 x, .int .i64 i, .int .i64 n] (.int .u64 (st x i (min (max n 0) 15).toNat)) := by
  intro w0
  obtain ⟨m, hm, hmn⟩ := upto15 n
  have hmt : (min (max n 0) 15).toNat = m := by omega
  rw [hmt]
  clear hmt
  have cpack := set_pack x i m hx hi hm
  have hd : decide ((i : Int) ≤ 15) = true := decide_eq_true (by omega)
  have c1 := ref_all x hx w0
  have HMN := Lib.hid hmn
  clear hmn
  go_enter Try.func15, Try.ntmps15
  go_wp2_with fail
  go_at_call 17
  refine (c1).mono ?_
  rintro e w1 ⟨rfl, hb1⟩
  have hO := ((Owned.nil w0).under hb1).alloc (.cells zeros16 28)
  have hi16 : (i : Int) < 16 := by omega
  have HO0 := Lib.hid hO
  clear hO
  go_wp2_with (first
        | (refine store_whole rfl _ _ _ rfl w1.heap.size rfl HO0.out (arrC (dg x)) rfl rfl (info_arr_of _ rfl) (arrC_one _) ?_; intro w2 hO2; have hlv := (Owned.cell hO2 i).trans (arrC_get (dg x) i hi); have hfz := Owned.frozen hO2 i; have hlt2 := Owned.lt hO2; have HO2 := Lib.hid hO2; clear hO2)
        | (refine load_whole rfl _ _ rfl w1.heap.size rfl (HO2.out.set i _) _ und_arr rfl (info_arr_of _ (by rw [Array.size_setIfInBounds, arrC_size])) ?_)
        | (go_at_call 25; refine ((cpack _ (by have := HMN.out; omega)) _).mono ?_; rintro e w3 ⟨rfl, hb3⟩))
  all_goals
    go_ret
    exact ⟨rfl, ((HO2.out.set i _).under hb3).below⟩
set_option maxHeartbeats 1600000 in
set_option maxRecDepth 100000 in
theorem ref_set_out (x : Nat) (hx : x < 18446744073709551616) (i n : Int) (hi : i < 0 ∨ 0 ≤ i ∧ 16 ≤ i) : TellsB 15 #[.int .u64 x, .int .i64 i, .int .i64 n] (.int .u64 x) := by
  intro w0
  have cpack := pack_calls (dg x) (dg_lt x)
  rw [pk_self x hx] at cpack
  have c1 := ref_all x hx w0
  rcases hi with hi | ⟨h1, h2⟩
  · go_enter Try.func15, Try.ntmps15
    go_wp2_with fail
    go_at_call 17
    refine (c1).mono ?_
    rintro e w1 ⟨rfl, hb1⟩
    have hO := ((Owned.nil w0).under hb1).alloc (.cells zeros16 28)
    have HO0 := Lib.hid hO
    clear hO
    go_wp2_with (first
        | (refine store_whole rfl _ _ _ rfl w1.heap.size rfl HO0.out (arrC (dg x)) rfl rfl (info_arr_of _ rfl) (arrC_one _) ?_; intro w2 hO2; have HO2 := Lib.hid hO2; clear hO2)
        | (refine load_whole rfl _ _ rfl w1.heap.size rfl HO2.out _ und_arr rfl (info_arr_of _ rfl) ?_)
        | (go_at_call 25; refine (cpack _).mono ?_; rintro e w3 ⟨rfl, hb3⟩))
    go_ret
    exact ⟨rfl, (HO2.out.under hb3).below⟩
  · have hd : decide (i ≤ 15) = false := decide_eq_false (by omega)
    go_enter Try.func15, Try.ntmps15
    go_wp2_with fail
    go_at_call 17
    refine (c1).mono ?_
    rintro e w1 ⟨rfl, hb1⟩
    have hO := ((Owned.nil w0).under hb1).alloc (.cells zeros16 28)
    have HO0 := Lib.hid hO
    clear hO
    go_wp2_with (first
        | (refine store_whole rfl _ _ _ rfl w1.heap.size rfl HO0.out (arrC (dg x)) rfl rfl (info_arr_of _ rfl) (arrC_one _) ?_; intro w2 hO2; have HO2 := Lib.hid hO2; clear hO2)
        | (refine load_whole rfl _ _ rfl w1.heap.size rfl HO2.out _ und_arr rfl (info_arr_of _ rfl) ?_)
        | (go_at_call 25; refine (cpack _).mono ?_; rintro e w3 ⟨rfl, hb3⟩))
    go_ret
    exact ⟨rfl, (HO2.out.under hb3).below⟩
/-- one more -/
theorem ref_inc_in (x : Nat) (hx : x < 18446744073709551616) (i : Nat) (hi : i < 16) (hd : dg x i < 15) : TellsB 11 #[.int .u64 x, .int .i64 i] (.tuple #[.int .u64 (st x i (dg x i + 1)), .bool true]) := by
  intro w0
  have c1 := ref_get_in x hx i hi
  have c2 := ref_set_in x hx i ((dg x i : Int) + 1) hi
  have hd15 : decide (15 < (i : Int)) = false := decide_eq_false (by omega)
  have hne : ((dg x i : Int) == 15) = false := by simp only [beq_eq_false_iff_ne, ne_eq]; omega
  rw [show (min (max ((dg x i : Int) + 1) 0) 15).toNat = dg x i + 1 by omega] at c2
  generalize dg x i = d at *
  generalize st x i (d + 1) = s at *
  go_enter Try.func11, Try.ntmps11
  go_wp2_with fail
  go_at_call 13
  refine (c1 _).mono ?_
  rintro e w1 ⟨rfl, rfl⟩
  go_wp2_with fail
  go_at_call 15
  refine (c2 _).mono ?_
  rintro e w1 ⟨rfl, hb⟩
  go_wp2_with fail
  refine bodyPost_ret (v := .tuple #[.int .u64 s, .bool true]) (by simp [results, Try.results11, go_sem]) rfl ⟨rfl, hb⟩
theorem ref_inc_full (x : Nat) (hx : x < 18446744073709551616) (i : Nat) (hi : i < 16) (hd : dg x i = 15) : TellsB 11 #[.int .u64 x, .int .i64 i] (.tuple #[.int .u64 x, .bool false]) := by
  intro w0
  have c1 := ref_get_in x hx i hi
  have hd15 : decide (15 < (i : Int)) = false := decide_eq_false (by omega)
  rw [hd] at c1
  clear hd
  go_enter Try.func11, Try.ntmps11
  go_wp2_with fail
  go_at_call 13
  refine (c1 _).mono ?_
  rintro e w1 ⟨rfl, rfl⟩
  go_wp2_with fail
  refine bodyPost_ret (v := .tuple #[.int .u64 x, .bool false]) (by simp [results, Try.results11, go_sem]) rfl ⟨rfl, Below.refl _ _⟩
theorem ref_inc_out (x : Nat) (i : Int) (hi : i < 0 ∨ 0 ≤ i ∧ 16 ≤ i) : TellsB 11 #[.int .u64 x, .int .i64 i] (.tuple #[.int .u64 x, .bool false]) := by
  intro w0
  have c1 := ref_get_out x i hi
  rcases hi with hi | ⟨h1, h2⟩
  · go_enter Try.func11, Try.ntmps11
    go_wp2_with fail
    go_at_call 13
    refine (c1 _).mono ?_
    rintro e w1 ⟨rfl, rfl⟩
    go_wp2_with fail
    refine bodyPost_ret (v := .tuple #[.int .u64 x, .bool false]) (by simp [results, Try.results11, go_sem]) rfl ⟨rfl, Below.refl _ _⟩
  · have hd15 : decide (15 < i) = true := decide_eq_true (by omega)
    go_enter Try.func11, Try.ntmps11
    go_wp2_with fail
    go_at_call 13
    refine (c1 _).mono ?_
    rintro e w1 ⟨rfl, rfl⟩
    go_wp2_with fail
    refine bodyPost_ret (v := .tuple #[.int .u64 x, .bool false]) (by simp [results, Try.results11, go_sem]) rfl ⟨rfl, Below.refl _ _⟩
end Go.Proofs.Ytfjnimlmedmdhaa
