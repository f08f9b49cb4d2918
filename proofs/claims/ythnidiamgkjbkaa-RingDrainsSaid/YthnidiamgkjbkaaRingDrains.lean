/- RingDrains: for every size and every row of at most 200 numbers, Drain tells what as many Takes would: the walk. -/
import Derived.Test.YthnidiamgkjbkaaRingSmall
import Derived.Deep.RegionHeld3
namespace Go.Proofs.Ythnidiamgkjbkaa
open Go.RowKit Go.Sep
set_option maxHeartbeats 800000 in
theorem drains_long (size : Int) (v : Value) (l : List Int) (w0 : World) (hv : Reads w0 v l) (hlong : 200 < l.length) : Calls Try.prog 6 #[.int .i64 size, v] w0 fun e w' => e = .returned (.bool true) ∧ Below w0.heap.size w0 w' := by
  obtain ⟨hl, A, c, rfl, _⟩ := hv
  go_enter Try.func6, Try.ntmps6
  go_wp2_with fail
  go_at_call 8
  refine (small_calls w0).mono ?_
  rintro e w1 ⟨rfl, hb1⟩
  obtain ⟨F, hO1⟩ : ∃ F, Owned w0 w1 F := ⟨[], (Owned.nil w0).under hb1⟩
  go_wp2_with fail
  go_at_call 9
  refine (ring_new size hO1).mono ?_
  rintro e w2 ⟨g, r, rfl, hr, hO2⟩
  go_wp2_with fail
  go_at_call 9
  refine (ring_new size hO2).mono ?_
  rintro e w3 ⟨g2, r2, rfl, hr2, hO3⟩
  go_wp2_with fail
  go_ret
  exact ⟨rfl, hO3.below⟩

/-- how long a slice is: for a measure -/
def lenOf : Value → Nat | .slice _ m _ => m | _ => 0
def TwoRel (w0 : World) (F : Own) (g g2 n k : Nat) (w : World) : Prop :=
  ∃ (L : List Int) (lost : Nat) (r r2 : Own), Ring g n L lost r ∧ Ring g2 n L lost r2 ∧ Owned w0 w (r ++ (r2 ++ F)) ∧ L.length + lost ≤ k
def DrRel (w0 : World) (F : Own) (g g2 n : Nat) (ALL : List Int) (lost : Nat) (m : Nat) (v : Value) (w : World) : Prop :=
  ∃ (rv r r2 : Own), Row 3 1 v m (ints (ALL.take m)) rv ∧ Ring g n (ALL.drop m) lost r ∧ Ring g2 n ALL lost r2 ∧ Owned w0 w (rv ++ (r ++ (r2 ++ F)))
set_option maxHeartbeats 3200000 in
set_option maxRecDepth 100000 in
theorem drains_walk (size : Int) (v : Value) (l : List Int) (w0 : World) (hv : Reads w0 v l) (hshort : l.length ≤ 200) : Calls Try.prog 6 #[.int .i64 size, v] w0 fun e w' => e = .returned (.bool true) ∧ Below w0.heap.size w0 w' := by
  obtain ⟨hl, A, c, rfl, hc⟩ := hv
  generalize hN : l.length = N at *
  have HN := Lib.hid hN
  clear hN
  have HC := Lib.hid hc
  clear hc
  go_enter Try.func6, Try.ntmps6
  go_wp2_with fail
  go_at_call 8
  refine (small_calls w0).mono ?_
  rintro e w1 ⟨rfl, hb1⟩
  obtain ⟨F, hO1⟩ : ∃ F, Owned w0 w1 F := ⟨[], (Owned.nil w0).under hb1⟩
  go_wp2_with fail
  go_at_call 9
  refine (ring_new size hO1).mono ?_
  rintro e w2 ⟨g2, r2, rfl, hr2, hO2⟩
  go_wp2_with fail
  go_at_call 9
  refine (ring_new size hO2).mono ?_
  rintro e w3 ⟨g, r, rfl, hr, hO3⟩
  generalize ringSize size = n at *
  go_wp2_with fail
  go_loopw [8] (fun x wr => ∃ k : Nat, k ≤ N ∧ x = .int .i64 k ∧ Hid (TwoRel w0 F g g2 n k wr)) (fun x _ => N - (intOf x).toNat)
  case atStart => exact ⟨0, Nat.zero_le _, rfl, [], 0, r, r2, hr, hr2, hO3, Nat.le_refl _⟩
  case round =>
    obtain ⟨k, hk, rfl, hrel⟩ := hrel
    obtain ⟨L, lost, r, r2, hr, hr2, hO, hle⟩ := hrel.out
    clear hrel
    by_cases hlt : k < N
    · obtain ⟨b, off, rfl, hcell⟩ := HC.out (by omega)
      have hc0 := hcell k hlt
      have hbl := World.block_lt_of_cell? _ _ hc0
      have hcx : ∀ W l', Owned w0 W l' → W.cell? ⟨b, off + k, none⟩ = some (.int .i64 (l.getD k 0)) := fun W l' h => (h.below.cell (p := ⟨b, off + k, none⟩) hbl).trans hc0
      clear hcell hc0
      generalize l.getD k 0 = x at *
      have HX := Lib.hid hcx
      clear hcx
      have cx := HX.out _ _ hO
      go_wp2_with fail
      go_region_held3 (fun w' => w'.cell? ⟨b, off + k, none⟩ = some (.int .i64 x)) (first | exact cx | exact HX.out _ _ hO4 | exact HX.out _ _ hO5)
        (first | (go_at_call 16; (with_reducible refine (ring_offer (g := g2) x hr2 (by omega) hO.comm.drew).mono ?_); rintro e w4 ⟨r4, rfl, hr4, hO4⟩) | (go_at_call 16; (with_reducible refine (ring_offer (g := g) x hr (by omega) hO4.comm).mono ?_); rintro e w5 ⟨r5, rfl, hr5, hO5⟩))
      have hle2 : (if L.length < n then L ++ [x] else L).length + (if L.length < n then lost else lost + 1) ≤ k + 1 := by
        split
        · rw [List.length_append, List.length_singleton]; omega
        · omega
      generalize (if L.length < n then L ++ [x] else L) = L' at *
      generalize (if L.length < n then lost else lost + 1) = lost' at *
      clear hr hr2 hO hO4
      by_cases h5 : k % 5 = 4
      · have h5' : ((k : Int) % 5 == 4) = true := by simp; omega
        have hO6 := hO5.comm
        go_wp2_with fail
        go_at_call 11
        refine (ring_take hr4 hO6).mono ?_
        rintro e w6 ⟨r6, rfl, hr6, hO7⟩
        go_wp2_with fail
        go_at_call 11
        refine (ring_take hr5 hO7.comm).mono ?_
        rintro e w7 ⟨r7, rfl, hr7, hO8⟩
        go_wp2_with fail
        go_roundw
        case rel => exact ⟨k + 1, by omega, by go_num, L'.tail, lost', r7, r6, hr7, hr6, hO8, by rw [List.length_tail]; omega⟩
        case measure => simp [intOf]; omega
      · have h5' : ((k : Int) % 5 == 4) = false := by simp; omega
        go_wp2_with fail
        go_roundw
        case rel => exact ⟨k + 1, by omega, by go_num, L', lost', r5, r4, hr5, hr4, hO5, hle2⟩
        case measure => simp [intOf]; omega
    · clear HC
      go_wp2_with fail
      go_loopw [13] (fun x wr => ∃ m : Nat, m ≤ L.length ∧ Hid (DrRel w0 F g2 g n L lost m x wr) ∧ ∃ A c, x = .slice A m c) (fun x _ => L.length - lenOf x)
      case atStart => exact ⟨0, Nat.zero_le _, ⟨[], r2, r, Row.nil _ _, hr2, hr, hO.comm⟩, none, 0, rfl⟩
      case round =>
        obtain ⟨m, hm, hrel, A2, c2, rfl⟩ := hrel
        obtain ⟨rv, r3, r4, hrow, hr3, hr4, hO3⟩ := hrel.out
        clear hrel
        by_cases hlt2 : m < L.length
        · have hdc := List.drop_eq_getElem_cons hlt2
          have htk : ints (L.take (m + 1)) = ints (L.take m) ++ [.int .i64 L[m]] := by unfold ints; rw [List.take_succ_eq_append_getElem hlt2, List.map_append]; rfl
          rw [hdc] at hr3
          have HT := Lib.hid htk
          clear htk hdc
          generalize L[m] = y at *
          have hlen : (y :: L.drop (m + 1)).length = L.length - (m + 1) + 1 := by simp
          have hm1 : m + 1 ≤ maxLen := by unfold maxLen; omega
          have hm2 : (m + 1) * 8 ≤ 140737488355328 := by omega
          go_wp2_with fail
          go_at_call 18
          refine (ring_len_calls hr3 hO3.comm).mono ?_
          rintro e w4 ⟨rfl, rfl⟩
          rw [hlen]
          clear hlen
          go_wp2_with fail
          go_at_call 11
          refine (ring_take hr3 hO3.comm).mono ?_
          rintro e w5 ⟨r5, rfl, hr5, hO5⟩
          have hO5' := hO5.comm
          go_wp2_with (at_builtin; refine append_one rfl (.tmp 98) (.tmp 100) 22 rfl 3 (.int .i64 0) 8 Try.underlying22 info3 rfl _ m _ rv _ _ rfl hrow hO5' rfl rfl hm1 hm2 ?_)
          intro v6 rv6 w6 hrow6 hO6
          obtain ⟨A6, c6, rfl⟩ := hrow6.slice
          go_wp2_with fail
          go_roundw
          case rel => exact ⟨m + 1, by omega, ⟨rv6, r5, r4, by rw [HT.out]; exact hrow6, hr5, hr4, hO6⟩, _, _, rfl⟩
          case measure => simp [lenOf]; omega
        · obtain rfl : L.length = m := by omega
          rw [List.take_length] at hrow
          rw [List.drop_length] at hr3
          go_wp2_with fail
          go_at_call 18
          refine (ring_len_calls hr3 hO3.comm).mono ?_
          rintro e w4 ⟨rfl, rfl⟩
          go_wp2_with fail
          go_at_call 14
          refine (ring_drain hr4 hO3.third).mono ?_
          rintro e w5 ⟨v1, r1, r5, rfl, hrow1, hr5, hO5⟩
          have hall : Reads w5 (.slice A2 L.length c2) L := reads_of_row hrow (by omega) hO5.third
          have hdr : Reads w5 v1 L := reads_of_row hrow1 (by omega) hO5
          go_wp2_with fail
          go_at_call 13
          refine (ints_yes rfl hall hdr).mono ?_
          rintro e w6 ⟨rfl, q, rfl⟩
          have hO6 := hO5.drewN q
          go_wp2_with fail
          go_at_call 19
          refine (ring_lost_calls hr3 hO6.fourth).mono ?_
          rintro e w7 ⟨rfl, rfl⟩
          go_wp2_with fail
          go_at_call 19
          refine (ring_lost_calls hr5 hO6.comm).mono ?_
          rintro e w7 ⟨rfl, rfl⟩
          go_wp2_with fail
          go_ret
          exact ⟨rfl, hO6.below⟩
end Go.Proofs.Ythnidiamgkjbkaa
