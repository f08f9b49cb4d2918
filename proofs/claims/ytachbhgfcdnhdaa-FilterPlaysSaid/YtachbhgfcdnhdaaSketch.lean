/- Layer 3: how a sketch stands in memory; a key's places. -/
import Derived.Test.YtachbhgfcdnhdaaNibAll
import Derived.Test.YtachbhgfcdnhdaaMixW
import Derived.Test.YtachbhgfcdnhdaaCeil
namespace Go.Proofs.Ytachbhgfcdnhdaa
open Go.RowKit NibPure Go.Sep
theorem info_arr4 : (Try.prog.info? 73).map (·.size) = some 4 := by kernel_rfl
theorem info_arr4_of (cs : Array Value) (h : cs.size = 4) : (Try.prog.info? 73).map (·.size) = some cs.size := by rw [h]; exact info_arr4
theorem und_arr4 : Try.prog.underlying 73 = some (.array 4 3) := by kernel_rfl
def arr4 (d : Nat → Nat) : Array Value := #[.int .i64 (d 0), .int .i64 (d 1), .int .i64 (d 2), .int .i64 (d 3)]
theorem arr4_get (d : Nat → Nat) : ∀ k, k < 4 → (arr4 d)[k]? = some (.int .i64 (d k))
  | 0, _ => rfl
  | 1, _ => rfl
  | 2, _ => rfl
  | 3, _ => rfl
  | n + 4, h => absurd h (by omega)
theorem arr4_one (d : Nat → Nat) : (arr4 d).all (·.oneCell') = true := by simp [arr4, Value.oneCell']
theorem arr4_eq (cur : Array Value) (d : Nat → Nat) (hs : cur.size = 4) (h : ∀ j, j < 4 → cur[j]? = some (.int .i64 (d j))) : cur = arr4 d := by
  apply Array.ext_getElem?
  intro j
  by_cases hj : j < 4
  · rw [h j hj, arr4_get d j hj]
  · rw [Array.getElem?_eq_none (by omega), Array.getElem?_eq_none (by show 4 ≤ j; omega)]
/-- a key's places -/
def plS (seed key : Int) (W row : Nat) : Nat := idx (mixN (wd key) (wd seed)) row W
theorem plS_lt (seed key : Int) {W : Nat} (hW : 1 ≤ W) (row : Nat) : plS seed key W row < W := idx_lt _ _ _ hW
def Filled4 (d : Nat → Nat) (k : Nat) (cur : Array Value) : Prop := cur.size = 4 ∧ ∀ j, j < k → cur[j]? = some (.int .i64 (d j))
def PlRel (w0 : World) (g : Nat) (d : Nat → Nat) (k : Nat) (w : World) : Prop := ∃ cur, Filled4 d k cur ∧ Owned w0 w [(g, .cells cur 73 (0, 0))]
set_option maxHeartbeats 1600000 in
theorem skp_calls (key seed : Int) (g W : Nat) (hW : W ≤ 65536) (w0 : World) (c0 : w0.cell? ⟨g, 0, none⟩ = some (.int .i64 (W : Int))) (c1 : w0.cell? ⟨g, 1, none⟩ = some (.int .i64 seed)) :
    Calls Try.prog 35 #[.pointer (some ⟨g, 0, none⟩), .int .i64 key] w0 fun e w' => e = .returned (.agg (arr4 (plS seed key W))) ∧ Below w0.heap.size w0 w' := by
  have hO := (Owned.nil w0).alloc (.cells #[.int .i64 0, .int .i64 0, .int .i64 0, .int .i64 0] 73)
  have cm := fun w => mix_calls seed key w
  have hl := mixN_lt (wd key) (wd seed)
  obtain ⟨d, hd⟩ : ∃ d, plS seed key W = d := ⟨_, rfl⟩
  have hdk : ∀ k : Nat, d k = idx (mixN (wd key) (wd seed)) k W := fun k => by rw [← hd]; rfl
  rw [hd]
  clear hd
  generalize mixN (wd key) (wd seed) = hh at *
  have ci : ∀ (k : Nat) w, Calls Try.prog 45 #[.int .u64 hh, .int .i64 (k : Int), .int .i64 (W : Int)] w fun e w' => e = .returned (.int .i64 (d k : Nat)) ∧ w = w' := fun k w => by rw [hdk]; exact index_calls hh hl k W (by omega) w
  have hc : ∀ W' l, Owned w0 W' l → W'.cell? ⟨g, 0, none⟩ = some (.int .i64 (W : Int)) := fun W' l h => (h.below.cell (p := ⟨g, 0, none⟩) (World.block_lt_of_cell? _ _ c0)).trans c0
  have HC := Lib.hid hc
  have c1' := (hO.below.cell (p := ⟨g, 1, none⟩) (World.block_lt_of_cell? _ _ c1)).trans c1
  clear hc hdk hl
  go_enter Try.func35, Try.ntmps35
  go_wp2_with fail
  go_at_call 44
  refine (cm _).mono ?_
  rintro e w1 ⟨rfl, rfl⟩
  clear c0 c1 c1' cm
  go_wp2_with fail
  go_loopw [13] (fun x4 wr => ∃ k : Nat, k ≤ 4 ∧ x4 = .int .i64 k ∧ Hid (PlRel w0 w0.heap.size d k wr)) (fun x4 _ => 4 - (intOf x4).toNat)
  case atStart => exact ⟨0, by omega, rfl, _, ⟨rfl, fun j hj => by omega⟩, hO⟩
  case round =>
    obtain ⟨k, hk, rfl, hrel⟩ := hrel
    obtain ⟨cur, ⟨hsz, hcur⟩, hO⟩ := hrel.out
    clear hrel
    by_cases hlt : k < 4
    · have hlv := (Owned.cell hO k).trans (Array.getElem?_eq_getElem (show k < cur.size by omega))
      have hfz := Owned.frozen hO k
      have hlt2 := Owned.lt hO
      have c0 := HC.out _ _ hO
      have HO := Lib.hid hO
      have HCU := Lib.hid hcur
      clear hO hcur
      go_wp2_with fail
      go_at_call 45
      refine (ci k _).mono ?_
      rintro e w1 ⟨rfl, rfl⟩
      go_wp2_with fail
      go_roundw
      case rel =>
        refine ⟨k + 1, by omega, by go_num, cur.setIfInBounds k (.int .i64 (d k)), ⟨by simp [hsz], fun j hj => ?_⟩, HO.out.set k _⟩
        by_cases e : k = j
        · subst e
          rw [Array.getElem?_setIfInBounds_self_of_lt (by omega)]
        · rw [Array.getElem?_setIfInBounds_ne e]
          exact HCU.out j (by omega)
      case measure => simp [intOf]; omega
    · obtain rfl : k = 4 := by omega
      obtain rfl := arr4_eq cur d hsz hcur
      clear hsz hcur
      have HO := Lib.hid hO
      clear hO
      go_wp2_with (first
        | (refine load_whole rfl _ _ rfl w0.heap.size rfl HO.out _ und_arr4 rfl (info_arr4_of _ rfl) ?_)
        | (refine store_whole rfl _ _ _ rfl w0.heap.size rfl HO.out (arr4 d) rfl rfl (info_arr4_of _ rfl) (arr4_one _) ?_; intro w2 hO2; have HO2 := Lib.hid hO2; clear hO2))
      exact bodyPost_ret (results_cell_row rfl _ _ w0.heap.size _ (arr4 d) _ _ rfl HO2.out.head und_arr4 rfl (info_arr4_of _ rfl)) rfl ⟨rfl, HO2.out.below⟩
end Go.Proofs.Ytachbhgfcdnhdaa
