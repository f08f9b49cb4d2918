/- Merged texts: Layer 3: a new sketch. Layer 3: a row's counters. Layer 3: a row's counters, the walk. -/
import Derived.Test.YtnhdjpeadhcajaaK11
import Derived.Deep.RegionWith
import Derived.Deep.OwnRows
namespace Go.Proofs.Ytnhdjpeadhcajaa
open Go.RowKit NibPure Go.Sep
/-- how many words a row of a sketch has -/
def wordN (cap : Int) : Nat := 2 ^ (up cap 4 12) / 16
theorem wordN_16 (cap : Int) : 2 ^ (up cap 4 12) = 16 * wordN cap ∧ 1 ≤ wordN cap ∧ wordN cap ≤ 4096 := by
  have h := up_le cap 12 4
  obtain ⟨d, hd⟩ : ∃ d, up cap 4 12 = 4 + d := ⟨up cap 4 12 - 4, by omega⟩
  unfold wordN
  rw [hd, Nat.pow_add]
  have h1 : 2 ^ 0 ≤ 2 ^ d := Nat.pow_le_pow_right (by omega) (by omega)
  have h2 : 2 ^ d ≤ 2 ^ 12 := Nat.pow_le_pow_right (by omega) (by omega)
  have e0 : 2 ^ 0 = 1 := rfl
  have e12 : 2 ^ 12 = 4096 := rfl
  omega
theorem info_u64s : (Try.prog.info? 117).map (fun i => (i.zero, i.size, i.bytes)) = some (some (.int .u64 0), 1, 8) := by kernel_rfl
def slV (n : Nat) (bs : Nat → Nat) (k i : Nat) : Value := if i < k then .slice (some ⟨bs i, 0, none⟩) n n else .slice none 0 0
def zRow (n : Nat) : Obj := .cells (wordsV (List.replicate n 0)).toArray 117 (0, 0)
def newB (g : Nat) (seed : Int) (n : Nat) (bs : Nat → Nat) (k : Nat) : Own :=
  (g, .cells #[.int .i64 ((16 * n : Nat) : Int), .int .i64 seed, .int .i64 0, slV n bs k 0, slV n bs k 1, slV n bs k 2, slV n bs k 3] 113 (0, 0)) :: (List.range k).map (fun i => (bs i, zRow n))
def NewRel (w0 : World) (F : Own) (g : Nat) (seed : Int) (n k : Nat) (w : World) : Prop := ∃ bs, Owned w0 w (newB g seed n bs k ++ F)
section
variable {g n : Nat} {seed : Int} {w0 w : World} {F : Own}
theorem new_step {bs : Nat → Nat} {k : Nat} (hk : k < 4) (h : Owned w0 w (newB g seed n bs k ++ F)) :
    NewRel w0 F g seed n (k + 1) ((w.setCell ⟨g, 3 + k, none⟩ (.slice (some ⟨w.heap.size, 0, none⟩) n n)).alloc (.cells (wordsV (List.replicate n 0)).toArray 117)).drew := by
  have h2 := ((Owned.set h (3 + k) (.slice (some ⟨w.heap.size, 0, none⟩) n n)).alloc (.cells (wordsV (List.replicate n 0)).toArray 117)).swap.drew
  rw [show (w.setCell ⟨g, 3 + k, none⟩ (.slice (some ⟨w.heap.size, 0, none⟩) n n)).heap.size = w.heap.size by simp] at h2
  refine ⟨fun i => if i = k then w.heap.size else bs i, ?_⟩
  have hm : (List.range k).map (fun i => ((if i = k then w.heap.size else bs i), zRow n)) = (List.range k).map (fun i => (bs i, zRow n)) :=
    List.map_congr_left (fun i hi => by rw [if_neg (by have := List.mem_range.1 hi; omega)])
  unfold newB
  rw [List.range_succ, List.map_append, hm]
  refine h2.perm ?_
  have hcells : (#[Value.int .i64 ((16 * n : Nat) : Int), .int .i64 seed, .int .i64 0, slV n bs k 0, slV n bs k 1, slV n bs k 2, slV n bs k 3]).setIfInBounds (3 + k) (.slice (some ⟨w.heap.size, 0, none⟩) n n) =
      #[.int .i64 ((16 * n : Nat) : Int), .int .i64 seed, .int .i64 0, slV n (fun i => if i = k then w.heap.size else bs i) (k + 1) 0, slV n (fun i => if i = k then w.heap.size else bs i) (k + 1) 1, slV n (fun i => if i = k then w.heap.size else bs i) (k + 1) 2, slV n (fun i => if i = k then w.heap.size else bs i) (k + 1) 3] := by
    rcases (show k = 0 ∨ k = 1 ∨ k = 2 ∨ k = 3 by omega) with rfl | rfl | rfl | rfl <;> simp [slV]
  rw [hcells]
  simp only [List.cons_append, List.map_cons, List.map_nil, List.append_assoc, if_true]
  refine List.Perm.cons _ ?_
  exact (List.perm_middle (a := (w.heap.size, zRow n)) (l₁ := (List.range k).map (fun i => (bs i, zRow n))) (l₂ := F)).symm
set_option maxHeartbeats 3200000 in
set_option maxRecDepth 100000 in
theorem sk_new (cap seed : Int) (h : Owned w0 w F) :
    Calls Try.prog 36 #[.int .i64 cap, .int .i64 seed] w fun e w' => ∃ g bs, e = .returned (.pointer (some ⟨g, 0, none⟩)) ∧ Owned w0 w' (newB g seed (wordN cap) bs 4 ++ F) := by
  have hc := ceil_calls cap 16 65536 4 16 rfl rfl (by omega) (by omega)
  have e0 : P2 (up cap 4 (16 - 4)) = ((2 ^ (up cap 4 12) : Nat) : Int) := P2_nat _
  obtain ⟨e1, n1, n2⟩ := wordN_16 cap
  rw [e0, e1] at hc
  clear e0 e1
  generalize wordN cap = n at *
  have hO := h.alloc (.cells #[.int .i64 ((16 * n : Nat) : Int), .int .i64 seed, .int .i64 0, .slice none 0 0, .slice none 0 0, .slice none 0 0, .slice none 0 0] 113)
  have HO := Lib.hid (show NewRel w0 F w.heap.size seed n 0 (w.alloc (.cells #[.int .i64 ((16 * n : Nat) : Int), .int .i64 seed, .int .i64 0, .slice none 0 0, .slice none 0 0, .slice none 0 0, .slice none 0 0] 113)) from ⟨fun _ => 0, hO⟩)
  have hmk := fun w => run_make_row' (P := Try.prog) 110 117 (.int .u64 0) 8 Try.underlying110 info_u64s rfl .i64 .i64 n (by omega) (by omega) w
  simp only [madeCells_one] at hmk
  have ez : (List.replicate n (Value.int .u64 0)).toArray = (wordsV (List.replicate n 0)).toArray := by simp [wordsV]
  rw [ez] at hmk
  have hW : (((16 * n : Nat) : Int)).tdiv 16 = (n : Int) := by rw [Int.tdiv_eq_ediv_of_nonneg (by omega)]; omega
  clear h hO ez
  generalize hg : w.heap.size = g at *
  go_enter Try.func36, Try.ntmps36
  go_wp2_with fail
  go_at_call 63
  refine (hc _).mono ?_
  rintro e w1 ⟨rfl, rfl⟩
  go_wp2_with fail
  clear hc hW
  go_loopw [12] (fun x12 wr => ∃ k : Nat, k ≤ 4 ∧ x12 = .int .i64 k ∧ Hid (NewRel w0 F g seed n k wr)) (fun x12 _ => 4 - (intOf x12).toNat)
  case atStart => exact ⟨0, by omega, rfl, by simpa using HO⟩
  case round =>
    clear HO hg
    obtain ⟨k, hk, rfl, hrel⟩ := hrel
    obtain ⟨bs, hO⟩ := hrel.out
    by_cases hlt : k < 4
    · have c0 : wr.cell? ⟨g, 0, none⟩ = some (.int .i64 ((16 * n : Nat) : Int)) := (Owned.cell hO 0).trans rfl
      have cf : wr.frozen? ⟨g, 3 + k, none⟩ = false := Owned.frozen hO _
      have cl : wr.cell? ⟨g, 3 + k, none⟩ = some (.slice none 0 0) := by
        refine (Owned.cell hO (3 + k)).trans ?_
        rcases (show k = 0 ∨ k = 1 ∨ k = 2 ∨ k = 3 by omega) with rfl | rfl | rfl | rfl <;> simp [slV]
      have hgl := Owned.lt hO
      have HNEW := Lib.hid (new_step hlt hO)
      rw [show ((16 * n : Nat) : Int) = 16 * (n : Int) by omega] at c0
      have hwr : IntKind.i64.wrap (n : Int) = (n : Int) := by rw [IntKind.wrap_i64]; omega
      clear hrel hO
      go_wp2_with fail
      go_region_with (fail)
      all_goals
        go_wp2_with fail
        go_roundw
        case rel => exact ⟨k + 1, by omega, by go_num, HNEW⟩
        case measure => simp [intOf]; omega
    · obtain rfl : k = 4 := by omega
      have HO := Lib.hid hO
      clear hrel hO
      go_wp2_with fail
      go_ret
      exact ⟨g, bs, rfl, HO.out⟩
theorem newB_skB (g : Nat) (seed : Int) (n : Nat) (bs : Nat → Nat) : newB g seed n bs 4 = skB g seed n 0 bs (fun _ => List.replicate n 0) := by
  simp [newB, skB, slV, zRow, List.range_succ]
theorem zeroRows (n : Nat) : Rows n (fun _ => List.replicate n 0) := by
  refine ⟨fun k _ => List.length_replicate, fun k q => ?_⟩
  simp only [List.getD, List.getElem?_replicate]
  split <;> simp
theorem cS_zero (n k c : Nat) : cS (fun _ => List.replicate n 0) k c = 0 := by
  unfold cS
  simp only [List.getD, List.getElem?_replicate]
  split <;> simp [dg]
end
end Go.Proofs.Ytnhdjpeadhcajaa
namespace Go.Proofs.Ytnhdjpeadhcajaa
open Go.RowKit NibPure Go.Sep
theorem infoI : (Try.prog.info? 3).map (fun i => (i.zero, i.size, i.bytes)) = some (some (.int .i64 0), 1, 8) := by kernel_rfl
/-- the first counters of a row -/
def rowL (rw : Nat → List Nat) (k q : Nat) : List Value := (List.range (16 * q)).map (fun c => Value.int .i64 (cS rw k c : Nat))
theorem rowL_len (rw : Nat → List Nat) (k q : Nat) : (rowL rw k q).length = 16 * q := by simp [rowL]
theorem rowL_succ (rw : Nat → List Nat) (k q : Nat) : rowL rw k (q + 1) = rowL rw k q ++ (arrC (dg ((rw k).getD q 0))).toList := by
  have e : ∀ j, j < 16 → cS rw k (16 * q + j) = dg ((rw k).getD q 0) j := fun j hj => by
    unfold cS
    rw [show (16 * q + j) / 16 = q by omega, show (16 * q + j) % 16 = j by omega]
  unfold rowL
  rw [show 16 * (q + 1) = 16 * q + 16 by omega, List.range_add, List.map_append, List.map_map]
  congr 1
  have e2 : (List.range 16).map ((fun c => Value.int .i64 ((cS rw k c : Nat) : Int)) ∘ fun x => 16 * q + x) = (List.range 16).map (fun j => Value.int .i64 ((dg ((rw k).getD q 0) j : Nat) : Int)) :=
    List.map_congr_left (fun j hj => by show Value.int .i64 ((cS rw k (16 * q + j) : Nat) : Int) = _; rw [e j (List.mem_range.1 hj)])
  rw [e2]
  rfl
section
variable {g n N : Nat} {seed : Int} {rb : Nat → Nat} {rw : Nat → List Nat} {w0 w : World} {F : Own}
end
end Go.Proofs.Ytnhdjpeadhcajaa
namespace Go.Proofs.Ytnhdjpeadhcajaa
open Go.RowKit NibPure Go.Sep
section
variable {g n N : Nat} {seed : Int} {rb : Nat → Nat} {rw : Nat → List Nat} {w0 w : World} {F : Own}
theorem add_zero_off (b j : Nat) : (⟨b, 0, none⟩ : Addr).add j = ⟨b, j, none⟩ := by
  simp [Addr.add]
  exact fun h => h.symm
def RowRel (w0 : World) (S : Own) (rw : Nat → List Nat) (k q : Nat) (v : Value) (w : World) : Prop := ∃ r, Row 3 1 v (16 * q) (rowL rw k q) r ∧ Owned w0 w (r ++ S)
end
end Go.Proofs.Ytnhdjpeadhcajaa
