/- Layer 11, PolicyKeeps: where all that is ever added weighs no more than the capacity together, none goes. -/
import Derived.Test.YtnhdjpeadhcajaaK49
namespace Go.Proofs.Ytnhdjpeadhcajaa
open Go.RowKit Go.Sep DqPure
set_option maxRecDepth 100000
def sumF (f : Nat → Nat → Int) : Nat → Int
  | 0 => 0
  | i + 1 => sumF f i + f i 3
theorem sumF_ev (f : Nat → Nat → Int) : ∀ len, ((evL len f).map (fun e => e.2.2.2)).sum = sumF f len
  | 0 => rfl
  | i + 1 => by
    rw [evL_succ, List.map_append, List.sum_append, sumF_ev f i]
    show _ + (f i 3 + 0) = _
    rw [Int.add_zero]
    rfl
theorem sumF_bd (f : Nat → Nat → Int) : ∀ i, (∀ j, j < i → 0 ≤ f j 3 ∧ f j 3 ≤ 1000) → 0 ≤ sumF f i ∧ sumF f i ≤ 1000 * (i : Int)
  | 0, _ => ⟨Int.le_refl _, Int.le_refl _⟩
  | i + 1, h => by
    have h1 := sumF_bd f i (fun j hj => h j (by omega))
    have h2 := h i (by omega)
    show 0 ≤ sumF f i + f i 3 ∧ sumF f i + f i 3 ≤ _
    omega
section
variable {w0 : World}
theorem pkeep_out (seed : Int) (v : Value) (len : Nat) (f : Nat → Nat → Int) (more : Int) (hv : ReadsR 4 w0 v len f) (h1 : 200 < len ∨ (len ≤ 200 ∧ more < 0) ∨ (len ≤ 200 ∧ 0 ≤ more ∧ 1000 < more)) :
    Calls Try.prog 5 #[.int .i64 seed, v, .int .i64 more] w0 fun e w' => e = .returned (.bool true) ∧ Below w0.heap.size w0 w' := by
  obtain ⟨hl, -, A, c, rfl, -⟩ := hv
  have cs := small_calls w0
  rcases h1 with h1 | ⟨h1, h2⟩ | ⟨h1, h2, h3⟩
  · go_enter Try.func5, Try.ntmps5
    go_wp2_with fail
    go_at_call 9
    refine (cs).mono ?_
    rintro e w1 ⟨rfl, hb⟩
    go_wp2_with fail
    go_ret
    exact ⟨rfl, hb⟩
  · go_enter Try.func5, Try.ntmps5
    go_wp2_with fail
    go_at_call 9
    refine (cs).mono ?_
    rintro e w1 ⟨rfl, hb⟩
    go_wp2_with fail
    go_ret
    exact ⟨rfl, hb⟩
  · go_enter Try.func5, Try.ntmps5
    go_wp2_with fail
    go_at_call 9
    refine (cs).mono ?_
    rintro e w1 ⟨rfl, hb⟩
    go_wp2_with fail
    go_ret
    exact ⟨rfl, hb⟩
set_option maxHeartbeats 12800000 in
theorem pkeep_walk (seed : Int) (v : Value) (len : Nat) (f : Nat → Nat → Int) (more : Int) (hv : ReadsR 4 w0 v len f) (h1 : len ≤ 200) (h2 : 0 ≤ more ∧ more ≤ 1000) :
    Calls Try.prog 5 #[.int .i64 seed, v, .int .i64 more] w0 fun e w' => e = .returned (.bool true) ∧ Below w0.heap.size w0 w' := by
  obtain ⟨F, hF⟩ : ∃ F : Sep.Own, [] = F := ⟨_, rfl⟩
  have hO0 : Owned w0 w0 F := by rw [← hF]; exact Owned.nil w0
  have cs := small_own hO0
  have hev := EvIn.of_old (F := F) hv
  have HEV := Lib.hid hev
  obtain ⟨-, -, A, c, rfl, hA, -⟩ := hv
  have HA := Lib.hid hA
  have g1 : decide (200 < len) = false := by simp; omega
  have g2 : decide (200 < (len : Int)) = false := by simp; omega
  have g3 : decide (1000 < more) = false := by simp; omega
  have g4 : decide (more < 0) = false := by simp; omega
  clear hF hO0 hev hA
  go_enter Try.func5, Try.ntmps5
  go_wp2_with fail
  go_at_call 9
  refine (cs).mono ?_
  rintro e w1 ⟨rfl, hO1⟩
  have HO1 := Lib.hid hO1
  clear cs hO1
  go_wp2_with fail
  go_loopw [8, 9] (fun x8 x9 wr => ∃ i : Nat, i ≤ len ∧ x9 = .int .i64 (i : Int) ∧ x8 = .int .i64 (sumF f i) ∧ Hid (∀ j, j < i → 0 ≤ f j 3 ∧ f j 3 ≤ 1000) ∧ wr = w1) (fun _ x9 _ => len - (intOf x9).toNat)
  case atStart => exact ⟨0, Nat.zero_le _, rfl, rfl, Lib.hid (fun j hj => by omega), rfl⟩
  case round =>
    obtain ⟨i, hi, rfl, rfl, hf, rfl⟩ := hrel
    have hsb := sumF_bd f i hf.out
    by_cases hlt : i < len
    · obtain ⟨b, off, rfl, hcells⟩ := HA.out (by omega)
      have t3 : wr.cell? ⟨b, off + i * 4 + 3, none⟩ = some (.int .i64 (f i 3)) := (HO1.out.below.cell (World.block_lt_of_cell? _ _ (hcells i 3 hlt (by omega)))).trans (hcells i 3 hlt (by omega))
      have HF2 := Lib.hid (show 0 ≤ f i 3 ∧ f i 3 ≤ 1000 → ∀ j, j < i + 1 → 0 ≤ f j 3 ∧ f j 3 ≤ 1000 from fun h j hj => by
        by_cases e : j < i
        · exact hf.out j e
        · rw [show j = i by omega]; exact h)
      have HS2 := Lib.hid (show sumF f (i + 1) = sumF f i + f i 3 from rfl)
      clear hcells hf
      generalize f i 3 = x at *
      generalize sumF f i = S at *
      by_cases h3 : x < 0
      · have d1 : decide (x < 0) = true := by simp; omega
        go_wp2_with fail
        go_ret
        exact ⟨rfl, HO1.out.below⟩
      · have d1 : decide (x < 0) = false := by simp; omega
        by_cases h4 : 1000 < x
        · have d2 : decide (1000 < x) = true := by simp; omega
          go_wp2_with fail
          go_ret
          exact ⟨rfl, HO1.out.below⟩
        · have d2 : decide (1000 < x) = false := by simp; omega
          go_wp2_with fail
          go_roundw
          case rel => exact ⟨i + 1, hlt, by go_num, by rw [HS2.out], Lib.hid (HF2.out ⟨by omega, by omega⟩), trivial⟩
          case measure => simp [intOf]; omega
    · obtain rfl : i = len := by omega
      have hN : newC (sumF f i + more) = sumF f i + more := by unfold newC; omega
      have hks := play_keeps (evL i f) (PSt.new (sumF f i + more) seed) 0 (new_good _ _) (fun e he => by
        obtain ⟨j, hj, rfl⟩ := List.mem_map.1 he
        exact (hf.out j (List.mem_range.1 hj)).1) (by show (0 : Int) + 0 + 0 ≤ 0; omega) (by rw [sumF_ev]; show 0 + sumF f i ≤ newC (sumF f i + more); omega)
      rw [sumF_ev] at hks
      obtain ⟨k1, k2, k3, k4⟩ := hks
      have hel : (evL i f).length = i := by unfold evL; simp
      have hl0 : (PSt.new (sumF f i + more) seed).len = 0 := rfl
      rw [hel, hl0] at k4
      have q1 := y_new (sumF f i + more) seed HO1.out
      have q2 := fun (g : Nat) (W : World) (hs : Stands w0 F g 0 (PSt.new (sumF f i + more) seed) W) => p_play HEV.out (by omega) (by omega) hs
      rw [k1] at q2
      clear hf hN hel hl0 k1 HEV HA HO1
      generalize ((PSt.new (sumF f i + more) seed).play (evL i f)).1 = P at *
      have Q2 := Lib.hid q2
      clear q2
      generalize PSt.new (sumF f i + more) seed = P0 at *
      generalize sumF f i = S at *
      go_wp2_with fail
      go_at_call 10
      refine (q1).mono ?_
      rintro e w2 ⟨g, rfl, hs2⟩
      have q3 := Q2.out g _ hs2
      clear q1 hs2
      go_wp2_with fail
      go_at_call 16
      refine (q3).mono ?_
      rintro e w3 ⟨v3, r3, rfl, hr3, hs3⟩
      obtain ⟨A3, c3, rfl⟩ := hr3.slice
      have HS0 := Lib.hid (hs3.sub (List.sublist_append_right r3 F))
      have HRL := Lib.hid (rows_len P)
      clear q3 hr3 hs3 Q2
      go_wp2_with fail
      go_loopw [12, 13] (fun xa xb wz => ∃ j : Nat, j ≤ 3 ∧ xb = .int .i64 (j : Int) ∧ xa = .int .i64 (rowsN_ P j : Int) ∧ rowsN_ P j ≤ 300000000 * j ∧ Hid (Stands w0 F g (0 + 2 * i) P wz)) (fun _ xb _ => 3 - (intOf xb).toNat)
      case atStart => exact ⟨0, by omega, rfl, rfl, Nat.le_refl _, HS0⟩
      case round =>
        obtain ⟨j, hj, rfl, rfl, hrl, hs⟩ := hrel
        replace hs := hs.out
        by_cases hlt3 : j < 3
        · have q7 := y_row hs (by omega) (j : Int)
          have hrow : (P.row (j : Int)).length ≤ 1000000 := by
            obtain ⟨_, _, _, _, _, _, n', hin, -⟩ := hs.open_
            have := idsAt_len hin.dq (j : Int)
            have hn := hin.inv.n
            show (idsAt 3 P.st (j : Int)).length ≤ _
            omega
          have HRS := Lib.hid (show rowsN_ P (j + 1) = rowsN_ P j + (P.row (j : Int)).length from rfl)
          clear hs
          generalize rowsN_ P j = R at *
          generalize P.row (j : Int) = rr at *
          go_wp2_with fail
          go_at_call 13
          refine (q7).mono ?_
          rintro e w7 ⟨v7, r7, rfl, hr7, hs7⟩
          obtain ⟨A7, c7, rfl⟩ := hr7.slice
          have HS7 := Lib.hid (hs7.sub (List.sublist_append_right r7 F))
          clear q7 hs7 hr7
          generalize rr.length = m at *
          go_wp2_with fail
          go_roundw
          case rel => exact ⟨j + 1, hlt3, by go_num, by rw [HRS.out]; go_num, by rw [HRS.out]; omega, HS7⟩
          case measure => simp [intOf]; omega
        · obtain rfl : j = 3 := by omega
          rw [HRL.out]
          have q8 := y_weight hs (by omega)
          clear HS0 hrl
          generalize P.len = m at *
          generalize P.wt = wt_ at *
          go_wp2_with fail
          go_at_call 14
          refine (q8).mono ?_
          rintro e w9 ⟨rfl, hb9⟩
          have hbl := (hs.under hb9).below
          have d1 : decide (wt_ ≤ S) = true := by simp; omega
          have d2 : decide (m ≤ i) = true := by simp; omega
          have d3 : decide ((m : Int) ≤ (i : Int)) = true := by simp; omega
          clear q8 hs hb9
          go_wp2_with fail
          go_ret
          exact ⟨rfl, hbl⟩
end
end Go.Proofs.Ytnhdjpeadhcajaa
