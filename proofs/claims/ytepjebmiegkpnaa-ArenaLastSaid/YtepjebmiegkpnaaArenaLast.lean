/- ArenaLast: for every number of nodes and every row of drops, the number that was dropped last is given first: the walk. -/
import Derived.Test.YtepjebmiegkpnaaArena5
import Derived.Test.YtepjebmiegkpnaaReads
namespace Go.Proofs.Ytepjebmiegkpnaa
open Go.RowKit Go.Sep
theorem Arena.lens {g most : Nat} {S : List (Option (Int × Int))} {G : List Nat} {r : Own} (hr : Arena g most S G r) : G.length ≤ S.length := by
  obtain ⟨sl, gone, held, hc, ha⟩ := hr
  have := ha.held_; omega
/-- what was dropped, in that order -/
def dropped (G : List Nat) : List Int := G.reverse.map (fun x : Nat => (x : Int))
theorem dropped_len (G : List Nat) : (dropped G).length = G.length := by simp [dropped]
theorem dropped_cons (x : Int) (h : 1 ≤ x) (G : List Nat) : dropped (x.toNat :: G) = dropped G ++ [x] := by
  simp [dropped]; omega
theorem dropped_get {G : List Nat} {j : Nat} (h1 : 1 ≤ j) (h2 : j ≤ G.length) : ∃ x, G.drop (G.length - j) = x :: G.drop (G.length - (j - 1)) ∧ (dropped G).getD (j - 1) 0 = (x : Int) := by
  have h3 : G.length - j < G.length := by omega
  refine ⟨G[G.length - j], ?_, ?_⟩
  · rw [List.drop_eq_getElem_cons h3]
    congr 2
    omega
  · have h4 : j - 1 < (dropped G).length := by rw [dropped_len]; omega
    simp only [List.getD, List.getElem?_eq_getElem h4, Option.getD_some]
    simp only [dropped, List.getElem_map, List.getElem_reverse]
    congr 2
    omega
set_option maxHeartbeats 800000 in
theorem last_out (n : Int) (v : Value) (l : List Int) (w0 : World) (hv : Reads w0 v l) (h1 : n < 1 ∨ 1 ≤ n ∧ 60 < n ∨ 1 ≤ n ∧ n ≤ 60 ∧ 60 < l.length) : Calls Try.prog 5 #[.int .i64 n, v] w0 fun e w' => e = .returned (.bool true) ∧ Below w0.heap.size w0 w' := by
  obtain ⟨hl, A, c, rfl, _⟩ := hv
  rcases h1 with h1 | ⟨h1, h2⟩ | ⟨h1, h2, h3⟩
  all_goals
    go_enter Try.func5, Try.ntmps5
    go_wp2_with fail
    go_at_call 8
    refine (small_calls _).mono ?_
    rintro e w1 ⟨rfl, hb1⟩
    obtain ⟨F, hO1⟩ : ∃ F, Owned w0 w1 F := ⟨[], (Owned.nil w0).under hb1⟩
    go_wp2_with fail
    go_at_call 9
    refine (ar_new 100 hO1).mono ?_
    rintro e w2 ⟨g, r, rfl, hr, hO2⟩
    go_wp2_with fail
    go_ret
    exact ⟨rfl, hO2.below⟩
def PutRel (w0 : World) (F : Own) (g i : Nat) (w : World) : Prop := ∃ S r, Arena g 100 S [] r ∧ Owned w0 w (r ++ F) ∧ S.length = i
def DropsRel (w0 : World) (F : Own) (g n : Nat) (v : Value) (w : World) : Prop := ∃ S G r rr, Row 3 1 v G.length (ints (dropped G)) rr ∧ Arena g 100 S G r ∧ Owned w0 w (rr ++ (r ++ F)) ∧ S.length = n
def AgainRel (w0 : World) (F rr : Own) (g n j : Nat) (G : List Nat) (w : World) : Prop := ∃ S r, Arena g 100 S (G.drop (G.length - j)) r ∧ Owned w0 w (rr ++ (r ++ F)) ∧ S.length = n
set_option maxHeartbeats 1600000 in
set_option maxRecDepth 100000 in
theorem last_walk (n : Nat) (v : Value) (l : List Int) (w0 : World) (hv : Reads w0 v l) (h0 : 1 ≤ n) (h1 : n ≤ 60) (h2 : l.length ≤ 60) : Calls Try.prog 5 #[.int .i64 n, v] w0 fun e w' => e = .returned (.bool true) ∧ Below w0.heap.size w0 w' := by
  have hm : mostOf 100 = 100 := rfl
  obtain ⟨hl, A, c, rfl, hc⟩ := hv
  generalize hN : l.length = N at *
  have HN := Lib.hid hN
  clear hN
  have HC := Lib.hid hc
  clear hc
  go_enter Try.func5, Try.ntmps5
  go_wp2_with fail
  go_at_call 8
  refine (small_calls _).mono ?_
  rintro e w1 ⟨rfl, hb1⟩
  obtain ⟨F, hO1⟩ : ∃ F, Owned w0 w1 F := ⟨[], (Owned.nil w0).under hb1⟩
  go_wp2_with fail
  go_at_call 9
  refine (ar_new 100 hO1).mono ?_
  rintro e w2 ⟨g, r, rfl, hr, hO2⟩
  rw [hm] at hr
  go_wp2_with fail
  go_loopw [7] (fun x wr => ∃ i : Nat, i ≤ n ∧ x = .int .i64 i ∧ Hid (PutRel w0 F g i wr)) (fun x _ => n - (intOf x).toNat)
  case atStart => exact ⟨0, Nat.zero_le _, rfl, _, r, hr, hO2, rfl⟩
  case round =>
    obtain ⟨i, hi, rfl, hrel⟩ := hrel
    obtain ⟨S, r1, hr1, hO3, hS⟩ := hrel.out
    clear hrel hr hO2
    by_cases hlt : i < n
    · go_wp2_with fail
      go_at_call 10
      refine (ar_put_new i 0 hr1 (by omega) (by omega) hO3).mono ?_
      rintro e w3 ⟨r2, rfl, hr2, hO4⟩
      go_wp2_with fail
      go_roundw
      case rel => exact ⟨i + 1, by omega, by go_num, _, r2, hr2, hO4, by rw [List.length_append, hS]; rfl⟩
      case measure => simp [intOf]; omega
    · obtain rfl : n = i := by omega
      clear hi hlt
      go_wp2_with fail
      go_loopw [8, 9] (fun x8 x9 wr => ∃ k : Nat, k ≤ N ∧ x9 = .int .i64 k ∧ Hid (DropsRel w0 F g n x8 wr)) (fun _ x9 _ => N - (intOf x9).toNat)
      case atStart => exact ⟨0, Nat.zero_le _, rfl, S, [], r1, [], Row.nil _ _, hr1, hO3, hS⟩
      case round =>
        clear hr1 hO3 hS
        obtain ⟨k, hk, rfl, hrel⟩ := hrel
        obtain ⟨S, G, r1, rr, hrow, hr1, hO3, hS⟩ := hrel.out
        clear hrel
        have hGS := hr1.lens
        have hm1 : G.length + 1 ≤ maxLen := by unfold maxLen; omega
        have hm2 : (G.length + 1) * 8 ≤ 140737488355328 := by omega
        by_cases hlt : k < N
        · obtain ⟨b, off, rfl, hcell⟩ := HC.out (by omega)
          have hc0 := hcell k hlt
          have hbl := World.block_lt_of_cell? _ _ hc0
          have hcx : ∀ W l', Owned w0 W l' → W.cell? ⟨b, off + k, none⟩ = some (.int .i64 (l.getD k 0)) := fun W l' h => (h.below.cell (p := ⟨b, off + k, none⟩) hbl).trans hc0
          clear hcell hc0
          generalize l.getD k 0 = x at *
          have HX := Lib.hid hcx
          clear hcx
          have cx := HX.out _ _ hO3
          cases hlk : look S x with
          | none =>
            have HL := Lib.hid hlk
            clear hlk
            go_wp2_with fail
            go_at_call 11
            refine (ar_drop_none HL.out hr1 hO3.comm).mono ?_
            rintro e w3 ⟨r2, rfl, hr2, hO4⟩
            go_wp2_with fail
            go_roundw
            case rel => exact ⟨k + 1, by omega, by go_num, S, G, r2, rr, hrow, hr2, hO4.comm, hS⟩
            case measure => simp [intOf]; omega
          | some p =>
            obtain ⟨pk, pv⟩ := p
            have hx1 : 1 ≤ x := by
              unfold look at hlk
              split at hlk
              · assumption
              · cases hlk
            have HL := Lib.hid hlk
            clear hlk
            go_wp2_with fail
            go_at_call 11
            refine (ar_drop HL.out hr1 hO3.comm).mono ?_
            rintro e w3 ⟨r2, rfl, hr2, hO4⟩
            have cx3 := HX.out _ _ hO4
            have hO4' := hO4.comm
            go_wp2_with (at_builtin; refine append_one rfl (.tmp 59) (.tmp 64) 22 rfl 3 (.int .i64 0) 8 Try.underlying22 info3 rfl _ G.length _ rr _ _ rfl hrow hO4' rfl rfl hm1 hm2 ?_)
            intro v2 rr2 w4 hrow2 hO5
            go_wp2_with fail
            go_roundw
            case rel => exact ⟨k + 1, by omega, by go_num, _, _, r2, rr2, by rw [dropped_cons x hx1]; simpa [ints] using hrow2, hr2, hO5, by rw [List.length_set]; exact hS⟩
            case measure => simp [intOf]; omega
        · have e2 : ((S.length - G.length : Nat) : Int) = (n : Int) - (G.length : Int) := by omega
          obtain ⟨A2, c2, rfl⟩ := hrow.slice
          go_wp2_with fail
          go_at_call 13
          refine (ar_len hr1 hO3.comm).mono ?_
          rintro e w3 ⟨rfl, rfl⟩
          rw [e2]
          clear HC
          go_wp2_with fail
          have hrow' : Row 3 1 (.slice A2 G.length c2) (dropped G).length (ints (dropped G)) rr := by rw [dropped_len]; exact hrow
          go_loopw [10] (fun x wr => ∃ j : Nat, j ≤ G.length ∧ x = .int .i64 ((j : Int) - 1) ∧ Hid (AgainRel w0 F rr g n j G wr)) (fun x _ => (intOf x + 1).toNat)
          case atStart => exact ⟨G.length, Nat.le_refl _, rfl, S, r1, by rw [Nat.sub_self]; exact hr1, hO3, hS⟩
          case round =>
            obtain ⟨j, hj, rfl, hrel⟩ := hrel
            have hGn : G.length ≤ 100 := by omega
            clear hr1 hO3 hS e2 hk hlt hm1 hm2
            clear hGS
            obtain ⟨S, r1, hr1, hO3, hS⟩ := hrel.out
            clear hrel
            cases j with
            | zero =>
              rw [Nat.sub_zero, List.drop_length] at hr1
              go_wp2_with fail
              go_at_call 10
              refine (ar_put_new 0 0 hr1 (by omega) (by omega) hO3.comm).mono ?_
              rintro e w5 ⟨r2, rfl, hr2, hO4⟩
              rw [hS]
              go_wp2_with fail
              go_ret
              exact ⟨rfl, hO4.below⟩
            | succ m =>
              obtain ⟨x, hx1, hx2⟩ := dropped_get (G := G) (j := m + 1) (by omega) hj
              rw [hx1] at hr1
              rw [Nat.add_sub_cancel] at hx2 hr1
              rw [show ((m + 1 : Nat) : Int) - 1 = (m : Int) by omega]
              have HX2 := Lib.hid hx2
              clear hx1 hx2
              go_wp2_with fail
              go_at_call 10
              refine (ar_put_again _ 0 hr1 (by omega) hO3.comm).mono ?_
              rintro e w5 ⟨r2, rfl, hr2, hO4⟩
              obtain ⟨_, A3, c3, hv3, hcell⟩ := reads_of_row hrow' (by rw [dropped_len]; omega) hO4.comm
              simp only [Value.slice.injEq] at hv3
              obtain ⟨rfl, hq, rfl⟩ := hv3
              clear hq
              obtain ⟨b3, o3, rfl, hc3⟩ := hcell (by rw [dropped_len]; omega)
              have c5 := hc3 m (by rw [dropped_len]; omega)
              rw [HX2.out] at c5
              clear hc3 hcell
              go_wp2_with fail
              go_roundw
              case rel => exact ⟨m, by omega, by go_num, _, r2, hr2, hO4.comm, by rw [List.length_set]; exact hS⟩
              case measure => simp [intOf]
end Go.Proofs.Ytepjebmiegkpnaa
