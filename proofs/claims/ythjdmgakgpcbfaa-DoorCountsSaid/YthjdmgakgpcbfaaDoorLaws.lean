/- The statements of layer 4: DoorCounts and DoorHolds, the walks. -/
import Derived.Test.YthjdmgakgpcbfaaDoorSmall
namespace Go.Proofs.Ythjdmgakgpcbfaa
open Go.RowKit Go.Sep DoorPure
theorem has_cnt (s k : Int) {B : List Bool} (hB : 1 ≤ B.length) (h : hasB s k B = true) : 1 ≤ cnt B := by
  have p0 := plc_lt s k 0 hB
  rw [hasB_iff] at h
  have h1 := h.1
  generalize plc s k 0 B.length = i at *
  have e : B.getD i false = B[i] := by simp [List.getD, p0]
  rw [e] at h1
  exact List.countP_pos_iff.2 ⟨B[i], List.getElem_mem _, h1⟩
theorem size_and (width : Int) : (bits .and .i64 ((8 * capN width : Nat) : Int) (((8 * capN width : Nat) : Int) - 1) == 0) = true := by
  obtain ⟨⟨e, h1, h2, h3⟩, _, _⟩ := capN_in width
  rw [h3]
  clear h3
  rcases (show e = 4 ∨ e = 5 ∨ e = 6 ∨ e = 7 ∨ e = 8 ∨ e = 9 ∨ e = 10 ∨ e = 11 ∨ e = 12 ∨ e = 13 ∨ e = 14 ∨ e = 15 ∨ e = 16 by omega) with rfl | rfl | rfl | rfl | rfl | rfl | rfl | rfl | rfl | rfl | rfl | rfl | rfl <;> decide
set_option maxHeartbeats 800000 in
theorem counts_out (width seed : Int) (v : Value) (l : List Int) (w0 : World) (hv : Reads w0 v l) (h1 : 1024 < width ∨ (width ≤ 1024 ∧ 200 < l.length)) : Calls Try.prog 6 #[.int .i64 width, .int .i64 seed, v] w0 fun e w' => e = .returned (.bool true) ∧ Below w0.heap.size w0 w' := by
  obtain ⟨hl, A, c, rfl, _⟩ := hv
  rcases h1 with h1 | ⟨h1, h2⟩
  all_goals
    go_enter Try.func6, Try.ntmps6
    go_wp2_with fail
    go_at_call 7
    refine (small_calls w0).mono ?_
    rintro e w1 ⟨rfl, hb1⟩
    go_wp2_with fail
    go_ret
    exact ⟨rfl, hb1⟩
def CountsRel (w0 : World) (F : Own) (g : Nat) (seed : Int) (S f k : Nat) (w : World) : Prop := ∃ B r, DoorAt g seed B r ∧ Owned w0 w (r ++ F) ∧ B.length = S ∧ cnt B ≤ 2 * f ∧ f ≤ k
set_option maxHeartbeats 1600000 in
set_option maxRecDepth 100000 in
theorem counts_walk (width seed : Int) (v : Value) (l : List Int) (w0 : World) (hv : Reads w0 v l) (h1 : width ≤ 1024) (hshort : l.length ≤ 200) : Calls Try.prog 6 #[.int .i64 width, .int .i64 seed, v] w0 fun e w' => e = .returned (.bool true) ∧ Below w0.heap.size w0 w' := by
  obtain ⟨hl, A, c, rfl, hc⟩ := hv
  generalize hN : l.length = N at *
  have HN := Lib.hid hN
  clear hN
  have HC := Lib.hid hc
  clear hc
  have hS := size_and width
  have hS1 : 128 ≤ 8 * capN width ∧ 8 * capN width ≤ 524288 := by have := capN_in width; omega
  have hz := cnt_zero (8 * capN width)
  have hd := fun (w : World) (h : Owned w0 w ([] : Own)) => door_new width seed h
  generalize 8 * capN width = S at *
  have HA := Lib.hid hS
  have HZ := Lib.hid hz
  clear hS hz
  go_enter Try.func6, Try.ntmps6
  go_wp2_with fail
  go_at_call 7
  refine (small_calls w0).mono ?_
  rintro e w1 ⟨rfl, hb1⟩
  go_wp2_with fail
  go_at_call 8
  refine (hd _ ((Owned.nil w0).under hb1)).mono ?_
  rintro e w2 ⟨g, r, rfl, hr, hO2⟩
  obtain ⟨F, hO2⟩ : ∃ F, Owned w0 w2 (r ++ F) := ⟨[], hO2⟩
  clear hd
  go_wp2_with fail
  go_loopw [9, 10] (fun x9 x10 wr => ∃ k f : Nat, k ≤ N ∧ x10 = .int .i64 k ∧ x9 = .int .i64 f ∧ Hid (CountsRel w0 F g seed S f k wr)) (fun _ x10 _ => N - (intOf x10).toNat)
  case atStart => exact ⟨0, 0, Nat.zero_le _, rfl, rfl, _, r, hr, hO2, List.length_replicate, by rw [HZ.out]; omega, Nat.le_refl _⟩
  case round =>
    obtain ⟨k, f, hk, rfl, rfl, hrel⟩ := hrel
    obtain ⟨B, r1, hr1, hO, hlen, hcnt, hf⟩ := hrel.out
    by_cases hlt : k < N
    · obtain ⟨b, off, rfl, hcell⟩ := HC.out (by omega)
      have hc0 := hcell k hlt
      have cx := (hO.below.cell (p := ⟨b, off + k, none⟩) (World.block_lt_of_cell? _ _ hc0)).trans hc0
      clear hcell hc0
      generalize l.getD k 0 = x at *
      have hB : 1 ≤ B.length := by omega
      have q := cnt_put seed x hB
      have qs := cnt_le (putB seed x B)
      rw [putB_len, hlen] at qs
      have ql := putB_len seed x B
      rw [hlen] at ql
      have QL := Lib.hid ql
      cases hh : hasB seed x B with
      | true =>
        have q1 := q.2.2.1 hh
        have q2 := has_cnt seed x hB hh
        have HH := Lib.hid hh
        obtain ⟨n, hn⟩ : ∃ n : Nat, cnt (putB seed x B) = n := ⟨_, rfl⟩
        rw [hn] at q qs q1
        have HNn := Lib.hid hn
        rw [← q1] at q2 hcnt
        clear q q1 hh hn hrel ql HC
        go_wp2_with fail
        go_at_call 13
        refine (d_put x HH.out hr1 hO).mono ?_
        rintro e w3 ⟨r3, rfl, hr3, hO3⟩
        go_wp2_with fail
        go_at_call 15
        refine (d_ones HNn.out hr3 hO3).mono ?_
        rintro e w4 ⟨rfl, rfl⟩
        go_wp2_with fail
        go_at_call 15
        refine (d_ones HNn.out hr3 hO3).mono ?_
        rintro e w4 ⟨rfl, rfl⟩
        go_wp2_with fail
        go_at_call 15
        refine (d_ones HNn.out hr3 hO3).mono ?_
        rintro e w4 ⟨rfl, rfl⟩
        go_wp2_with fail
        go_at_call 10
        refine (d_size QL.out hr3 hO3).mono ?_
        rintro e w4 ⟨rfl, rfl⟩
        go_wp2_with fail
        go_roundw
        case rel => exact ⟨k + 1, f, by omega, by go_num, rfl, _, r3, hr3, hO3, QL.out, by rw [HNn.out]; exact hcnt, by omega⟩
        case measure => simp [intOf]; omega
      | false =>
        have q1 := q.2.2.2 hh
        have q2 := q.2.1
        have HH := Lib.hid hh
        obtain ⟨n, hn⟩ : ∃ n : Nat, cnt (putB seed x B) = n := ⟨_, rfl⟩
        rw [hn] at q qs q1 q2
        have HNn := Lib.hid hn
        have q3 : 1 ≤ n := by omega
        have q4 : n ≤ 2 * (f + 1) := by omega
        clear q q1 q2 hh hn hrel ql HC hcnt
        go_wp2_with fail
        go_at_call 13
        refine (d_put x HH.out hr1 hO).mono ?_
        rintro e w3 ⟨r3, rfl, hr3, hO3⟩
        go_wp2_with fail
        go_at_call 15
        refine (d_ones HNn.out hr3 hO3).mono ?_
        rintro e w4 ⟨rfl, rfl⟩
        go_wp2_with fail
        go_at_call 15
        refine (d_ones HNn.out hr3 hO3).mono ?_
        rintro e w4 ⟨rfl, rfl⟩
        go_wp2_with fail
        go_at_call 15
        refine (d_ones HNn.out hr3 hO3).mono ?_
        rintro e w4 ⟨rfl, rfl⟩
        go_wp2_with fail
        go_at_call 10
        refine (d_size QL.out hr3 hO3).mono ?_
        rintro e w4 ⟨rfl, rfl⟩
        go_wp2_with fail
        go_roundw
        case rel => exact ⟨k + 1, f + 1, by omega, by go_num, by go_num, _, r3, hr3, hO3, QL.out, by rw [HNn.out]; exact q4, by omega⟩
        case measure => simp [intOf]; omega
    · have HL := Lib.hid hlen
      clear hlen hrel hcnt
      have ha := HA.out
      go_wp2_with fail
      go_at_call 10
      refine (d_size HL.out hr1 hO).mono ?_
      rintro e w4 ⟨rfl, rfl⟩
      go_wp2_with fail
      go_at_call 10
      refine (d_size HL.out hr1 hO).mono ?_
      rintro e w4 ⟨rfl, rfl⟩
      go_wp2_with fail
      go_at_call 10
      refine (d_size HL.out hr1 hO).mono ?_
      rintro e w4 ⟨rfl, rfl⟩
      go_wp2_with fail
      go_ret
      exact ⟨rfl, hO.below⟩
end Go.Proofs.Ythjdmgakgpcbfaa
