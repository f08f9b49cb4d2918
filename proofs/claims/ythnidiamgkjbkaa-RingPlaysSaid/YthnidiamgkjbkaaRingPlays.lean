/- RingPlays: for every size and every row of at most 300 calls, the ring answers as the document's: the walk. -/
import Derived.Test.YthnidiamgkjbkaaRingSmall
import Derived.Test.YthnidiamgkjbkaaRefRing
import Derived.Deep.RegionHeld3
import Derived.Deep.DeepCutAuto
namespace Go.Proofs.Ythnidiamgkjbkaa
open Go.RowKit Go.Sep
set_option maxHeartbeats 800000 in
theorem plays_long (size : Int) (v : Value) (l : List Int) (w0 : World) (hv : Reads w0 v l) (hlong : 300 < l.length) : Calls Try.prog 3 #[.int .i64 size, v] w0 fun e w' => e = .returned (.bool true) ∧ Below w0.heap.size w0 w' := by
  obtain ⟨hl, A, c, rfl, _⟩ := hv
  go_enter Try.func3, Try.ntmps3
  go_wp2_with fail
  go_at_call 8
  refine (small_calls w0).mono ?_
  rintro e w1 ⟨rfl, hb1⟩
  obtain ⟨F, hO1⟩ : ∃ F, Owned w0 w1 F := ⟨[], (Owned.nil w0).under hb1⟩
  go_wp2_with fail
  go_at_call 9
  refine (ring_new size hO1).mono ?_
  rintro e w2 ⟨g, r, rfl, hr, hO2⟩
  go_wp2_with fail
  go_at_call 10
  refine (ref_new size hO2).mono ?_
  rintro e w3 ⟨g2, r2, rfl, hr2, hO3⟩
  go_wp2_with fail
  go_ret
  exact ⟨rfl, hO3.below⟩

def PlRel (w0 : World) (F : Own) (g g2 n k : Nat) (w : World) : Prop :=
  ∃ (L : List Int) (lost : Nat) (r r2 : Own), Ring g n L lost r ∧ RefRing g2 n L lost r2 ∧ Owned w0 w (r ++ (r2 ++ F)) ∧ L.length + lost ≤ k
set_option maxHeartbeats 6400000 in
set_option maxRecDepth 100000 in
theorem plays_walk (size : Int) (v : Value) (l : List Int) (w0 : World) (hv : Reads w0 v l) (hshort : l.length ≤ 300) : Calls Try.prog 3 #[.int .i64 size, v] w0 fun e w' => e = .returned (.bool true) ∧ Below w0.heap.size w0 w' := by
  obtain ⟨hl, A, c, rfl, hc⟩ := hv
  generalize hN : l.length = N at *
  clear hN
  have HC := Lib.hid hc
  clear hc
  go_enter Try.func3, Try.ntmps3
  go_wp2_with fail
  go_at_call 8
  refine (small_calls w0).mono ?_
  rintro e w1 ⟨rfl, hb1⟩
  obtain ⟨F, hO1⟩ : ∃ F, Owned w0 w1 F := ⟨[], (Owned.nil w0).under hb1⟩
  go_wp2_with fail
  go_at_call 9
  refine (ring_new size hO1).mono ?_
  rintro e w2 ⟨g, r, rfl, hr, hO2⟩
  go_wp2_with fail
  go_at_call 10
  refine (ref_new size hO2).mono ?_
  rintro e w3 ⟨g2, r2, rfl, hr2, hO3⟩
  generalize ringSize size = n at *
  go_wp2_with fail
  go_loopw [8] (fun x wr => ∃ k : Nat, k ≤ N ∧ x = .int .i64 k ∧ Hid (PlRel w0 F g g2 n k wr)) (fun x _ => N - (intOf x).toNat)
  case atStart => exact ⟨0, Nat.zero_le _, rfl, [], 0, r, r2, hr, hr2, hO3.comm, Nat.le_refl _⟩
  case round =>
    obtain ⟨k, hk, rfl, hrel⟩ := hrel
    obtain ⟨L, lost, r, r2, hr, hr2, hO, hle⟩ := hrel.out
    clear hrel
    by_cases hlt : k < N
    · obtain ⟨b, off, rfl, hcell⟩ := HC.out (by omega)
      have hc0 := hcell k hlt
      have hbl := World.block_lt_of_cell? _ _ hc0
      have hcx : ∀ W l', Owned w0 W l' → W.cell? ⟨b, off + k, none⟩ = some (.int .i64 (l.getD k 0)) := fun W l' h => (h.below.cell (p := ⟨b, off + k, none⟩) hbl).trans hc0
      clear hcell hc0
      generalize l.getD k 0 = x at *
      have HX := Lib.hid hcx
      clear hcx
      have cx := HX.out _ _ hO
      go_upto_if 41 with (fail)
      go_cut [9] (fun x9 wc => x9 = .bool true ∧ Hid (PlRel w0 F g g2 n (k + 1) wc))
      case first =>
        by_cases hx1 : x = -1
        · have hx1' : (x == -1) = true := by rw [hx1]; rfl
          clear hx1
          go_wp2_with fail
          go_at_call 11
          refine (ring_take hr hO).mono ?_
          rintro e w4 ⟨r4, rfl, hr4, hO4⟩
          go_wp2_with fail
          go_at_call 12
          refine (ref_take hr2 (by omega) hO4.comm).mono ?_
          rintro e w5 ⟨r5, rfl, hr5, hO5⟩
          go_wp2_with fail
          go_meet
          case rel => exact ⟨rfl, L.tail, lost, r4, r5, hr4, hr5, hO5.comm, by rw [List.length_tail]; omega⟩
        · have hx1' : (x == -1) = false := by simpa using hx1
          clear hx1
          by_cases hx2 : x = -2
          · have hx2' : (x == -2) = true := by rw [hx2]; rfl
            clear hx2
            go_wp2_with fail
            go_at_call 14
            refine (ring_drain hr hO).mono ?_
            rintro e w4 ⟨v1, r1, r4, rfl, hrow1, hr4, hO4⟩
            go_wp2_with fail
            go_at_call 15
            refine (ref_drain hr2 hO4.third).mono ?_
            rintro e w5 ⟨v2, r6, r5, rfl, hrow2, hr5, hO5⟩
            have hra : Reads w5 v1 L := reads_of_row hrow1 (by omega) hO5.third
            have hrb : Reads w5 v2 L := reads_of_row hrow2 (by omega) hO5
            go_wp2_with fail
            go_at_call 13
            refine (ints_yes rfl hra hrb).mono ?_
            rintro e w6 ⟨rfl, q, rfl⟩
            go_wp2_with fail
            go_meet
            case rel => exact ⟨rfl, [], lost, r4, r5, hr4, hr5, (hO5.drop_.comm.drop_.comm).drewN q, by simp; omega⟩
          · have hx2' : (x == -2) = false := by simpa using hx2
            clear hx2
            go_wp2_with fail
            go_region_held3 (fun w' => w'.cell? ⟨b, off + k, none⟩ = some (.int .i64 x)) (first | exact cx | exact HX.out _ _ hO4 | exact HX.out _ _ hO5)
              (first | (go_at_call 16; (with_reducible refine (ring_offer x hr (by omega) hO.drew).mono ?_); rintro e w4 ⟨r4, rfl, hr4, hO4⟩) | (go_at_call 17; (with_reducible refine (ref_offer x hr2 (by omega) (by omega) hO4.comm).mono ?_); rintro e w5 ⟨r5, rfl, hr5, hO5⟩))
            have hle2 : (if L.length < n then L ++ [x] else L).length + (if L.length < n then lost else lost + 1) ≤ k + 1 := by
              split
              · rw [List.length_append, List.length_singleton]; omega
              · omega
            go_wp2_with fail
            go_meet
            case rel => exact ⟨rfl, _, _, r4, r5, hr4, hr5, hO5.comm, hle2⟩
      case rest =>
        obtain ⟨rfl, hrel⟩ := hcut
        clear hr hr2 hO hle cx
        obtain ⟨L, lost, r, r2, hr, hr2, hO, hle⟩ := hrel.out
        obtain ⟨A2, c2, d0, d1, d2⟩ := ref_reads hr2 hO.comm
        go_wp2_with fail
        go_quiet (first
          | (go_at_call 18; exact Calls.quiet_of_same ((ring_len_calls hr (hO.drewN _)).mono (fun _ _ h => ⟨h.1, h.2.symm⟩)))
          | (go_at_call 19; exact Calls.quiet_of_same ((ring_lost_calls hr (hO.drewN _)).mono (fun _ _ h => ⟨h.1, h.2.symm⟩)))
          | (go_at_call 20; exact Calls.quiet_of_same ((ring_size_calls hr (hO.drewN _)).mono (fun _ _ h => ⟨h.1, h.2.symm⟩))))
        go_wp2_with fail
        go_roundw
        case rel => exact ⟨k + 1, by omega, by go_num, L, lost, r, r2, hr, hr2, hO.drewN _, hle⟩
        case measure => simp [intOf]; omega
    · clear HC
      obtain ⟨vL, rv, rfl, hrow2⟩ := hr2
      have d1 : wr.cell? ⟨g2, 1, none⟩ = some vL := (Owned.cell hO.comm 1).trans rfl
      go_wp2_with fail
      go_region_held3 (fun w' => w'.cell? ⟨g2, 1, none⟩ = some vL) (first | exact d1 | exact d4 | exact (show w4.cell? ⟨g2, 1, none⟩ = some vL from d4))
        (first | (go_at_call 14; (with_reducible refine (ring_drain hr hO.drew).mono ?_); rintro e w4 ⟨v1, r1, r4, rfl, hrow1, hr4, hO4⟩; have d4 : w4.cell? ⟨g2, 1, none⟩ = some vL := (Owned.cell hO4.third 1).trans rfl; have hra : Reads w4 v1 L := reads_of_row hrow1 (by omega) hO4; have hrb : Reads w4 vL L := reads_of_row (w0 := w0) (r := rv) hrow2 (by omega) (Owned.tail hO4.third)) | (go_at_call 13; (with_reducible refine (ints_yes rfl hra hrb).mono ?_); rintro e w5 ⟨rfl, q, rfl⟩))
      go_wp2_with fail
      go_ret
      exact ⟨rfl, (hO4.drewN q).below⟩
end Go.Proofs.Ythnidiamgkjbkaa
