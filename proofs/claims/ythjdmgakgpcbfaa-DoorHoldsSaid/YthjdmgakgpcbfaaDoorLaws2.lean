/- The statements of layer 4: DoorHolds, the walk. -/
import Derived.Test.YthjdmgakgpcbfaaDoorLaws
namespace Go.Proofs.Ythjdmgakgpcbfaa
open Go.RowKit Go.Sep DoorPure
set_option maxHeartbeats 800000 in
theorem holds_out (seed : Int) (v : Value) (l : List Int) (w0 : World) (hv : Reads w0 v l) (h1 : 200 < l.length) : Calls Try.prog 4 #[.int .i64 seed, v] w0 fun e w' => e = .returned (.bool true) ∧ Below w0.heap.size w0 w' := by
  obtain ⟨hl, A, c, rfl, _⟩ := hv
  go_enter Try.func4, Try.ntmps4
  go_wp2_with fail
  go_at_call 7
  refine (small_calls w0).mono ?_
  rintro e w1 ⟨rfl, hb1⟩
  go_wp2_with fail
  go_at_call 8
  refine (door_new 16 seed ((Owned.nil w0).under hb1)).mono ?_
  rintro e w2 ⟨g, r, rfl, hr, hO2⟩
  go_wp2_with fail
  go_ret
  exact ⟨rfl, hO2.below⟩
def HoldsRel (w0 : World) (F : Own) (g : Nat) (seed : Int) (l : List Int) (k : Nat) (w : World) : Prop := ∃ B r, DoorAt g seed B r ∧ Owned w0 w (r ++ F) ∧ ∀ m, m < k → hasB seed (l.getD m 0) B = true
def At (w0 : World) (F : Own) (g : Nat) (seed : Int) (B : List Bool) (w : World) : Prop := ∃ r, DoorAt g seed B r ∧ Owned w0 w (r ++ F)
set_option maxHeartbeats 3200000 in
set_option maxRecDepth 100000 in
theorem holds_walk (seed : Int) (v : Value) (l : List Int) (w0 : World) (hv : Reads w0 v l) (hshort : l.length ≤ 200) : Calls Try.prog 4 #[.int .i64 seed, v] w0 fun e w' => e = .returned (.bool true) ∧ Below w0.heap.size w0 w' := by
  obtain ⟨hl, A, c, rfl, hc⟩ := hv
  generalize hN : l.length = N at *
  have HN := Lib.hid hN
  clear hN
  have HC := Lib.hid hc
  clear hc
  have hd := fun (w : World) (h : Owned w0 w ([] : Own)) => door_new 16 seed h
  generalize 8 * capN 16 = S at *
  go_enter Try.func4, Try.ntmps4
  go_wp2_with fail
  go_at_call 7
  refine (small_calls w0).mono ?_
  rintro e w1 ⟨rfl, hb1⟩
  go_wp2_with fail
  go_at_call 8
  refine (hd _ ((Owned.nil w0).under hb1)).mono ?_
  rintro e w2 ⟨g, r, rfl, hr, hO2⟩
  obtain ⟨F, hO2⟩ : ∃ F, Owned w0 w2 (r ++ F) := ⟨[], hO2⟩
  clear hd
  go_wp2_with fail
  go_loopw [7] (fun x7 wr => ∃ k : Nat, k ≤ N ∧ x7 = .int .i64 k ∧ Hid (HoldsRel w0 F g seed l k wr)) (fun x7 _ => N - (intOf x7).toNat)
  case atStart => exact ⟨0, Nat.zero_le _, rfl, _, r, hr, hO2, fun m hm => by omega⟩
  case round =>
    obtain ⟨k, hk, rfl, hrel⟩ := hrel
    obtain ⟨B, r1, hr1, hO, hall⟩ := hrel.out
    have hle := hr1.le
    by_cases hlt : k < N
    · obtain ⟨b, off, rfl, hcell⟩ := HC.out (by omega)
      have hcx : ∀ m, m < N → ∀ W (l' : Own), Owned w0 W l' → W.cell? ⟨b, off + m, none⟩ = some (.int .i64 (l.getD m 0)) := fun m hm W l' h => (h.below.cell (p := ⟨b, off + m, none⟩) (World.block_lt_of_cell? _ _ (hcell m hm))).trans (hcell m hm)
      have HX := Lib.hid hcx
      clear hcell hcx
      have cx := HX.out k hlt _ _ hO
      obtain ⟨x, hx⟩ : ∃ x, l.getD k 0 = x := ⟨_, rfl⟩
      rw [hx] at cx
      have hB : 1 ≤ B.length := by omega
      have q := cnt_put seed x hB
      have hown := has_put seed x hB
      have hall2 : ∀ m, m < k + 1 → hasB seed (l.getD m 0) (putB seed x B) = true := by
        intro m hm
        by_cases e : m = k
        · subst e; rw [hx]; exact hown
        · exact has_mono seed _ x hB (hall m (by omega))
      have HALL := Lib.hid hall2
      have q2 := cnt_le B
      obtain ⟨n0, hn0⟩ : ∃ n : Nat, cnt B = n := ⟨_, rfl⟩
      obtain ⟨n, hn⟩ : ∃ n : Nat, cnt (putB seed x B) = n := ⟨_, rfl⟩
      rw [hn0] at q q2
      rw [hn] at q
      obtain ⟨p1, p2, p3, p4⟩ := q
      have HN0 := Lib.hid hn0
      have HN1 := Lib.hid hn
      have HXX := Lib.hid hx
      clear hn0 hn hx hall hall2 hown hrel HC
      have HP3 := Lib.hid p3
      have HP4 := Lib.hid p4
      have HLE := Lib.hid hle
      clear p3 p4
      have b1 : n0 ≤ 1000000 := by omega
      clear q2 hB hle
      cases hh : hasB seed x B with
      | true =>
        have HH := Lib.hid hh
        obtain rfl := HP3.out hh
        clear hh p1 p2
        go_wp2_with fail
        go_at_call 15
        refine (d_ones HN0.out hr1 hO).mono ?_
        rintro e w3 ⟨rfl, rfl⟩
        go_wp2_with fail
        go_at_call 17
        refine (d_has x HH.out hr1 hO).mono ?_
        rintro e w4 ⟨rfl, hO4⟩
        have cx4 := HX.out k hlt _ _ hO4
        rw [HXX.out] at cx4
        go_wp2_with fail
        go_at_call 13
        refine (d_put x HH.out hr1 hO4).mono ?_
        rintro e w5 ⟨r5, rfl, hr5, hO5⟩
        go_wp2_with fail
        go_at_call 15
        refine (d_ones HN1.out hr5 hO5).mono ?_
        rintro e w6 ⟨rfl, rfl⟩
        go_wp2_with fail
        go_at_call 15
        refine (d_ones HN1.out hr5 hO5).mono ?_
        rintro e w6 ⟨rfl, rfl⟩
        go_wp2_with fail
        go_at_call 15
        refine (d_ones HN1.out hr5 hO5).mono ?_
        rintro e w6 ⟨rfl, rfl⟩
        clear hO hO4 cx cx4 hr1 HH
        go_wp2_with fail
        go_loopw [10] (fun x10 wr => ∃ m : Nat, m ≤ k + 1 ∧ x10 = .int .i64 m ∧ Hid (At w0 F g seed (putB seed x B) wr)) (fun x10 _ => k + 1 - (intOf x10).toNat)
        case atStart => exact ⟨0, Nat.zero_le _, rfl, r5, hr5, hO5⟩
        case round =>
          obtain ⟨m, hm, rfl, hrel⟩ := hrel
          obtain ⟨r6, hr6, hO6⟩ := hrel.out
          by_cases hlm : m < k + 1
          · have cx6 := HX.out m (by omega) _ _ hO6
            clear hO5
            go_wp2_with fail
            go_at_call 17
            refine (d_has _ (HALL.out m hlm) hr6 hO6).mono ?_
            rintro e w7 ⟨rfl, hO7⟩
            go_wp2_with fail
            go_roundw
            case rel => exact ⟨m + 1, by omega, by go_num, r6, hr6, hO7⟩
            case measure => simp [intOf]; omega
          · go_wp2_with fail
            go_roundw
            case rel => exact ⟨k + 1, by omega, by go_num, _, r6, hr6, hO6, HALL.out⟩
            case measure => simp [intOf]; omega
      | false =>
        have HH := Lib.hid hh
        have p5 := HP4.out hh
        have p6 : (((n : Nat) : Int) == ((n0 : Nat) : Int)) = false := by
          rw [beq_eq_false_iff_ne]; omega
        have p7 : decide (n < n0) = false := decide_eq_false (by omega)
        have p8 : decide ((n0 : Int) + 2 < (n : Int)) = false := decide_eq_false (by omega)
        clear hh p1
        go_wp2_with fail
        go_at_call 15
        refine (d_ones HN0.out hr1 hO).mono ?_
        rintro e w3 ⟨rfl, rfl⟩
        go_wp2_with fail
        go_at_call 17
        refine (d_has x HH.out hr1 hO).mono ?_
        rintro e w4 ⟨rfl, hO4⟩
        have cx4 := HX.out k hlt _ _ hO4
        rw [HXX.out] at cx4
        go_wp2_with fail
        go_at_call 13
        refine (d_put x HH.out hr1 hO4).mono ?_
        rintro e w5 ⟨r5, rfl, hr5, hO5⟩
        go_wp2_with fail
        go_at_call 15
        refine (d_ones HN1.out hr5 hO5).mono ?_
        rintro e w6 ⟨rfl, rfl⟩
        go_wp2_with fail
        go_at_call 15
        refine (d_ones HN1.out hr5 hO5).mono ?_
        rintro e w6 ⟨rfl, rfl⟩
        go_wp2_with fail
        go_at_call 15
        refine (d_ones HN1.out hr5 hO5).mono ?_
        rintro e w6 ⟨rfl, rfl⟩
        clear hO hO4 cx cx4 hr1 HH
        go_wp2_with fail
        clear p2 p5 p6 p7 p8
        go_loopw [10] (fun x10 wr => ∃ m : Nat, m ≤ k + 1 ∧ x10 = .int .i64 m ∧ Hid (At w0 F g seed (putB seed x B) wr)) (fun x10 _ => k + 1 - (intOf x10).toNat)
        case atStart => exact ⟨0, Nat.zero_le _, rfl, r5, hr5, hO5⟩
        case round =>
          obtain ⟨m, hm, rfl, hrel⟩ := hrel
          obtain ⟨r6, hr6, hO6⟩ := hrel.out
          by_cases hlm : m < k + 1
          · have cx6 := HX.out m (by omega) _ _ hO6
            clear hO5
            go_wp2_with fail
            go_at_call 17
            refine (d_has _ (HALL.out m hlm) hr6 hO6).mono ?_
            rintro e w7 ⟨rfl, hO7⟩
            go_wp2_with fail
            go_roundw
            case rel => exact ⟨m + 1, by omega, by go_num, r6, hr6, hO7⟩
            case measure => simp [intOf]; omega
          · go_wp2_with fail
            go_roundw
            case rel => exact ⟨k + 1, by omega, by go_num, _, r6, hr6, hO6, HALL.out⟩
            case measure => simp [intOf]; omega
    · clear hrel hall
      go_wp2_with fail
      go_at_call 11
      refine (door_clear hr1 hO).mono ?_
      rintro e w3 ⟨r3, rfl, hr3, hO3⟩
      generalize B.length = L at *
      clear hr1 hO
      go_wp2_with fail
      go_loopw [11] (fun x11 wr => ∃ m : Nat, m ≤ N ∧ x11 = .int .i64 m ∧ Hid (At w0 F g seed (List.replicate L false) wr)) (fun x11 _ => N - (intOf x11).toNat)
      case atStart => exact ⟨0, Nat.zero_le _, rfl, r3, hr3, hO3⟩
      case round =>
        obtain ⟨m, hm, rfl, hrel⟩ := hrel
        obtain ⟨r6, hr6, hO6⟩ := hrel.out
        clear hO3
        by_cases hlm : m < N
        · obtain ⟨b, off, rfl, hcell⟩ := HC.out (by omega)
          have cx6 := (hO6.below.cell (p := ⟨b, off + m, none⟩) (World.block_lt_of_cell? _ _ (hcell m hlm))).trans (hcell m hlm)
          clear hcell
          go_wp2_with fail
          go_at_call 17
          refine (d_has _ (has_zero seed (l.getD m 0) L) hr6 hO6).mono ?_
          rintro e w7 ⟨rfl, hO7⟩
          go_wp2_with fail
          go_roundw
          case rel => exact ⟨m + 1, by omega, by go_num, r6, hr6, hO7⟩
          case measure => simp [intOf]; omega
        · go_wp2_with fail
          go_at_call 15
          refine (d_ones (cnt_zero L) hr6 hO6).mono ?_
          rintro e w7 ⟨rfl, rfl⟩
          go_wp2_with fail
          go_ret
          exact ⟨rfl, hO6.below⟩
end Go.Proofs.Ythjdmgakgpcbfaa
