/- Merged texts: Contracts of layer 4's functions over own memory: clear, ones, new. Layer 3: how a sketch stands in memory; a key's places. -/
import Derived.Test.YtnhdjpeadhcajaaK08
import Derived.Test.YtnhdjpeadhcajaaK06
import Derived.Test.YtnhdjpeadhcajaaK04
import Derived.Test.YtnhdjpeadhcajaaK05
namespace Go.Proofs.Ytnhdjpeadhcajaa
open Go.RowKit Go.Sep DoorPure
section
variable {g : Nat} {seed : Int} {w0 w : World} {F : Own}
theorem zero64 (w : World) : (zeroValue 117).run Try.prog w = .ok (.int .u64 0) w := by kernel_rfl
theorem putAll_same (cs : Array Value) (vs : List Value) (h : vs.length = cs.size) : putAll cs 0 vs = vs.toArray := putAll_whole cs vs h
set_option maxHeartbeats 800000 in
theorem door_clear {B : List Bool} {r : Own} (hr : DoorAt g seed B r) (h : Owned w0 w (r ++ F)) :
    Calls Try.prog 46 #[.pointer (some ⟨g, 0, none⟩)] w fun e w' => ∃ r', e = .returned (.tuple #[]) ∧ DoorAt g seed (List.replicate B.length false) r' ∧ Owned w0 w' (r' ++ F) := by
  obtain ⟨b, ws, rfl, hw, h1, h2⟩ := hr
  have hlen := hw.len
  have c1 : w.cell? ⟨g, 1, none⟩ = some (.slice (some ⟨b, 0, none⟩) ws.length ws.length) := (Owned.cell h 1).trans rfl
  have hcl := fun ty => Lib.run_clear_slice (P := Try.prog) w 110 117 ty (.int .u64 0) Try.underlying110 zero64 rfl rfl b 0 ws.length ws.length (by omega)
    (fun j hj => by rw [Nat.zero_add, Owned.cell h.swap j, wordsV_get ws j hj]; rfl) (fun j hj => Owned.frozen h.swap _)
  have hO := (Owned.sets (List.replicate ws.length (.int .u64 0)) 0 _ _ h.swap).swap
  rw [putAll_same _ _ (by rw [List.length_replicate, List.size_toArray, wordsV_len])] at hO
  have e : (List.replicate ws.length (Value.int .u64 0)).toArray = (wordsV (List.replicate ws.length 0)).toArray := by simp [wordsV]
  rw [e] at hO
  have HO := Lib.hid hO
  have hz := Words.zero ws.length
  have HZ := Lib.hid hz
  have HL := Lib.hid hlen
  clear h hw hO e hz hlen
  go_enter Try.func46, Try.ntmps46
  go_wp2
  go_end0
  refine ⟨doorB g b seed (List.replicate ws.length 0), rfl, ⟨b, _, rfl, ?_, by rw [List.length_replicate]; exact h1, by rw [List.length_replicate]; exact h2⟩, ?_⟩
  · rw [HL.out]; exact HZ.out
  · unfold doorB
    rw [List.length_replicate]
    exact HO.out
theorem ds_le (n : Nat) : ∀ x, Pop.ds 2 n x ≤ n := by
  induction n with
  | zero => intro x; exact Nat.le_refl _
  | succ n ih => intro x; have := ih (x / 2); rw [Pop.ds]; omega
theorem tot_append : ∀ (a b : List Nat), tot (a ++ b) = tot a + tot b
  | [], b => by simp [tot]
  | x :: a, b => by rw [List.cons_append, tot, tot, tot_append a b]; omega
theorem tot_snoc (ws : List Nat) (k : Nat) (h : k < ws.length) : tot (ws.take (k + 1)) = tot (ws.take k) + Pop.ds 2 64 (ws.getD k 0) := by
  rw [List.take_succ_eq_append_getElem h, tot_append]
  simp [tot, List.getD, h]
theorem tot_le : ∀ ws : List Nat, tot ws ≤ 64 * ws.length
  | [] => Nat.le_refl _
  | x :: a => by
    have := tot_le a
    have := ds_le 64 x
    rw [tot, List.length_cons]; omega
/-- how many bits a door of a width has -/
def capN (width : Int) : Nat := 2 ^ (up width 4 12)
theorem capN_in (width : Int) : (∃ e, 4 ≤ e ∧ e ≤ 16 ∧ capN width = 2 ^ e) ∧ 16 ≤ capN width ∧ capN width ≤ 65536 := by
  have h := up_le width 12 4
  have h1 : 2 ^ 4 ≤ 2 ^ (up width 4 12) := Nat.pow_le_pow_right (by omega) h.1
  have h2 : 2 ^ (up width 4 12) ≤ 2 ^ 16 := Nat.pow_le_pow_right (by omega) h.2
  exact ⟨⟨_, h.1, h.2, rfl⟩, h1, h2⟩
theorem capN_8 (width : Int) : 8 * capN width = 64 * (capN width / 8) := by
  obtain ⟨⟨e, h1, h2, h3⟩, _, _⟩ := capN_in width
  obtain ⟨d, rfl⟩ : ∃ d, e = 3 + d := ⟨e - 3, by omega⟩
  rw [h3, Nat.pow_add]
  omega
theorem info_u64 : (Try.prog.info? 117).map (fun i => (i.zero, i.size, i.bytes)) = some (some (.int .u64 0), 1, 8) := by kernel_rfl
set_option maxHeartbeats 800000 in
theorem door_new (width seed : Int) (h : Owned w0 w F) :
    Calls Try.prog 37 #[.int .i64 width, .int .i64 seed] w fun e w' => ∃ g r, e = .returned (.pointer (some ⟨g, 0, none⟩)) ∧ DoorAt g seed (List.replicate (8 * capN width) false) r ∧ Owned w0 w' (r ++ F) := by
  have hc := ceil_calls width 16 65536 4 16 rfl rfl (by omega) (by omega)
  obtain ⟨_, k1, k2⟩ := capN_in width
  have k8 := capN_8 width
  have e0 : P2 (up width 4 (16 - 4)) = ((capN width : Nat) : Int) := P2_nat _
  rw [e0] at hc
  generalize capN width = c at *
  have hn : (8 * (c : Int)) / 64 = ((c / 8 : Nat) : Int) := by omega
  have hmk := fun w => run_make_row' (P := Try.prog) 110 117 (.int .u64 0) 8 Try.underlying110 info_u64 rfl .i64 .i64 (c / 8) (by omega) (by omega) w
  rw [show ((c / 8 : Nat) : Int) = (c : Int) / 8 by omega] at hmk
  simp only [madeCells_one] at hmk
  have hz := Words.zero (c / 8)
  rw [← k8] at hz
  have HZ := Lib.hid hz
  have hO := (h.alloc (.cells (List.replicate (c / 8) (.int .u64 0)).toArray 117)).alloc (.cells #[.int .i64 seed, .slice (some ⟨w.heap.size, 0, none⟩) (c / 8) (c / 8)] 115)
  have e : (List.replicate (c / 8) (Value.int .u64 0)).toArray = (wordsV (List.replicate (c / 8) 0)).toArray := by simp [wordsV]
  rw [show (w.alloc (.cells (List.replicate (c / 8) (.int .u64 0)).toArray 117)).heap.size = w.heap.size + 1 by simp] at hO
  have HO := Lib.hid hO
  have HE := Lib.hid e
  have b1 : ((c / 8 : Nat) : Int) ≤ 8192 := by omega
  have b2 : (0 : Int) ≤ ((c / 8 : Nat) : Int) := by omega
  have HB := Lib.hid (show 1 ≤ c / 8 ∧ c / 8 ≤ 8192 by omega)
  clear hO e hz h e0
  go_enter Try.func37, Try.ntmps37
  go_wp2_with fail
  go_at_call 63
  refine (hc _).mono ?_
  rintro e w1 ⟨rfl, rfl⟩
  go_wp2_with fail
  go_ret
  refine ⟨w.heap.size + 1, doorB (w.heap.size + 1) w.heap.size seed (List.replicate (c / 8) 0), rfl, ⟨_, _, rfl, HZ.out, by rw [List.length_replicate]; exact HB.out.1, by rw [List.length_replicate]; exact HB.out.2⟩, ?_⟩
  unfold doorB
  rw [List.length_replicate, ← HE.out]
  exact HO.out
end
end Go.Proofs.Ytnhdjpeadhcajaa
namespace Go.Proofs.Ytnhdjpeadhcajaa
open Go.RowKit NibPure Go.Sep
theorem info_arr4 : (Try.prog.info? 118).map (·.size) = some 4 := by kernel_rfl
theorem info_arr4_of (cs : Array Value) (h : cs.size = 4) : (Try.prog.info? 118).map (·.size) = some cs.size := by rw [h]; exact info_arr4
theorem und_arr4 : Try.prog.underlying 118 = some (.array 4 3) := by kernel_rfl
def arr4 (d : Nat → Nat) : Array Value := #[.int .i64 (d 0), .int .i64 (d 1), .int .i64 (d 2), .int .i64 (d 3)]
theorem arr4_get (d : Nat → Nat) : ∀ k, k < 4 → (arr4 d)[k]? = some (.int .i64 (d k))
  | 0, _ => rfl
  | 1, _ => rfl
  | 2, _ => rfl
  | 3, _ => rfl
  | n + 4, h => absurd h (by omega)
theorem arr4_one (d : Nat → Nat) : (arr4 d).all (·.oneCell') = true := by simp [arr4, Value.oneCell']
theorem arr4_eq (cur : Array Value) (d : Nat → Nat) (hs : cur.size = 4) (h : ∀ j, j < 4 → cur[j]? = some (.int .i64 (d j))) : cur = arr4 d := by
  apply Array.ext_getElem?
  intro j
  by_cases hj : j < 4
  · rw [h j hj, arr4_get d j hj]
  · rw [Array.getElem?_eq_none (by omega), Array.getElem?_eq_none (by show 4 ≤ j; omega)]
/-- a key's places -/
def plS (seed key : Int) (W row : Nat) : Nat := idx (mixN (wd key) (wd seed)) row W
theorem plS_lt (seed key : Int) {W : Nat} (hW : 1 ≤ W) (row : Nat) : plS seed key W row < W := idx_lt _ _ _ hW
def Filled4 (d : Nat → Nat) (k : Nat) (cur : Array Value) : Prop := cur.size = 4 ∧ ∀ j, j < k → cur[j]? = some (.int .i64 (d j))
def PlRel (w0 : World) (g : Nat) (d : Nat → Nat) (k : Nat) (w : World) : Prop := ∃ cur, Filled4 d k cur ∧ Owned w0 w [(g, .cells cur 118 (0, 0))]
set_option maxHeartbeats 1600000 in
theorem skp_calls (key seed : Int) (g W : Nat) (hW : W ≤ 65536) (w0 : World) (c0 : w0.cell? ⟨g, 0, none⟩ = some (.int .i64 (W : Int))) (c1 : w0.cell? ⟨g, 1, none⟩ = some (.int .i64 seed)) :
    Calls Try.prog 66 #[.pointer (some ⟨g, 0, none⟩), .int .i64 key] w0 fun e w' => e = .returned (.agg (arr4 (plS seed key W))) ∧ Below w0.heap.size w0 w' := by
  have hO := (Owned.nil w0).alloc (.cells #[.int .i64 0, .int .i64 0, .int .i64 0, .int .i64 0] 118)
  have cm := fun w => mix_calls seed key w
  have hl := mixN_lt (wd key) (wd seed)
  obtain ⟨d, hd⟩ : ∃ d, plS seed key W = d := ⟨_, rfl⟩
  have hdk : ∀ k : Nat, d k = idx (mixN (wd key) (wd seed)) k W := fun k => by rw [← hd]; rfl
  rw [hd]
  clear hd
  generalize mixN (wd key) (wd seed) = hh at *
  have ci : ∀ (k : Nat) w, Calls Try.prog 81 #[.int .u64 hh, .int .i64 (k : Int), .int .i64 (W : Int)] w fun e w' => e = .returned (.int .i64 (d k : Nat)) ∧ w = w' := fun k w => by rw [hdk]; exact index_calls hh hl k W (by omega) w
  have hc : ∀ W' l, Owned w0 W' l → W'.cell? ⟨g, 0, none⟩ = some (.int .i64 (W : Int)) := fun W' l h => (h.below.cell (p := ⟨g, 0, none⟩) (World.block_lt_of_cell? _ _ c0)).trans c0
  have HC := Lib.hid hc
  have c1' := (hO.below.cell (p := ⟨g, 1, none⟩) (World.block_lt_of_cell? _ _ c1)).trans c1
  clear hc hdk hl
  go_enter Try.func66, Try.ntmps66
  go_wp2_with fail
  go_at_call 80
  refine (cm _).mono ?_
  rintro e w1 ⟨rfl, rfl⟩
  clear c0 c1 c1' cm
  go_wp2_with fail
  go_loopw [13] (fun x4 wr => ∃ k : Nat, k ≤ 4 ∧ x4 = .int .i64 k ∧ Hid (PlRel w0 w0.heap.size d k wr)) (fun x4 _ => 4 - (intOf x4).toNat)
  case atStart => exact ⟨0, by omega, rfl, _, ⟨rfl, fun j hj => by omega⟩, hO⟩
  case round =>
    obtain ⟨k, hk, rfl, hrel⟩ := hrel
    obtain ⟨cur, ⟨hsz, hcur⟩, hO⟩ := hrel.out
    clear hrel
    by_cases hlt : k < 4
    · have hlv := (Owned.cell hO k).trans (Array.getElem?_eq_getElem (show k < cur.size by omega))
      have hfz := Owned.frozen hO k
      have hlt2 := Owned.lt hO
      have c0 := HC.out _ _ hO
      have HO := Lib.hid hO
      have HCU := Lib.hid hcur
      clear hO hcur
      go_wp2_with fail
      go_at_call 81
      refine (ci k _).mono ?_
      rintro e w1 ⟨rfl, rfl⟩
      go_wp2_with fail
      go_roundw
      case rel =>
        refine ⟨k + 1, by omega, by go_num, cur.setIfInBounds k (.int .i64 (d k)), ⟨by simp [hsz], fun j hj => ?_⟩, HO.out.set k _⟩
        by_cases e : k = j
        · subst e
          rw [Array.getElem?_setIfInBounds_self_of_lt (by omega)]
        · rw [Array.getElem?_setIfInBounds_ne e]
          exact HCU.out j (by omega)
      case measure => simp [intOf]; omega
    · obtain rfl : k = 4 := by omega
      obtain rfl := arr4_eq cur d hsz hcur
      clear hsz hcur
      have HO := Lib.hid hO
      clear hO
      go_wp2_with (first
        | (refine load_whole rfl _ _ rfl w0.heap.size rfl HO.out _ und_arr4 rfl (info_arr4_of _ rfl) ?_)
        | (refine store_whole rfl _ _ _ rfl w0.heap.size rfl HO.out (arr4 d) rfl rfl (info_arr4_of _ rfl) (arr4_one _) ?_; intro w2 hO2; have HO2 := Lib.hid hO2; clear hO2))
      exact bodyPost_ret (results_cell_row rfl _ _ w0.heap.size _ (arr4 d) _ _ rfl HO2.out.head und_arr4 rfl (info_arr4_of _ rfl)) rfl ⟨rfl, HO2.out.below⟩
end Go.Proofs.Ytnhdjpeadhcajaa
