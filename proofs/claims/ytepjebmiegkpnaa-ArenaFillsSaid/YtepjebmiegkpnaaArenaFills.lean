/- ArenaFills: for every size and every choice of drops, an arena holds as many as it may: the walk. -/
import Derived.Test.YtepjebmiegkpnaaArena5
namespace Go.Proofs.Ytepjebmiegkpnaa
open Go.RowKit Go.Sep
section
variable {g most : Nat} {S : List (Option (Int × Int))} {G : List Nat} {w0 w : World} {F r : Own}
theorem Arena.lens (hr : Arena g most S G r) : G.length ≤ S.length := by
  obtain ⟨sl, gone, held, hc, ha⟩ := hr
  have := ha.held_; omega
theorem Arena.bound {x : Nat} (hr : Arena g most S (x :: G) r) : 1 ≤ x ∧ x ≤ S.length := by
  obtain ⟨sl, gone, held, hc, ha⟩ := hr
  obtain ⟨nx, h1, _, h2, h3, _⟩ := ha.again 0 0
  exact ⟨h2, h3⟩
theorem Arena.all_held (hr : Arena g most S [] r) {id : Nat} (h1 : 1 ≤ id) (h2 : id ≤ S.length) : ∃ k v, look S id = some (k, v) := by
  obtain ⟨sl, gone, held, hc, ha⟩ := hr
  unfold look
  rw [if_pos (by omega), Int.toNat_natCast]
  have h3 : S[id - 1]? = some S[id - 1] := List.getElem?_eq_getElem (by omega)
  cases h4 : S[id - 1] with
  | none => rw [h4] at h3; exact absurd (ha.none_ _ h3) (by simp)
  | some p => rw [h3, h4]; exact ⟨p.1, p.2, rfl⟩
theorem Arena.held_cell (hr : Arena g most S G r) (h : Owned w0 w (r ++ F)) : w.cell? ⟨g, 3, none⟩ = some (.int .i64 ((S.length - G.length : Nat) : Int)) := by
  obtain ⟨sl, gone, held, hc, ha⟩ := hr
  obtain ⟨b, cap, cur, rfl, _⟩ := hc
  have e1 : S.length - G.length = held := by have := ha.held_; omega
  rw [e1]
  exact (Owned.cell h 3).trans rfl
theorem look_set_ne {i j : Nat} {o : Option (Int × Int)} (h1 : 1 ≤ i) (h2 : i ≠ j) : look (S.set ((i : Int).toNat - 1) o) j = look S j := by
  unfold look
  split
  · rename_i h3
    rw [Int.toNat_natCast, Int.toNat_natCast, List.getElem?_set_ne (by omega)]
  · rfl
def heldOf (w : World) (g : Nat) : Nat := (intOf ((w.cell? ⟨g, 3, none⟩).getD (.bool false))).toNat
theorem Arena.heldOf (hr : Arena g most S G r) (h : Owned w0 w (r ++ F)) : heldOf w g = S.length - G.length := by
  unfold Ytepjebmiegkpnaa.heldOf
  rw [hr.held_cell h]
  simp [intOf]
end
set_option maxHeartbeats 800000 in
theorem fills_out (most again : Int) (w0 : World) (h1 : 200 < most) (h2 : most < 65536) : Calls Try.prog 4 #[.int .i64 most, .int .i64 again] w0 fun e w' => e = .returned (.bool true) ∧ Below w0.heap.size w0 w' := by
  go_enter Try.func4, Try.ntmps4
  go_wp2_with fail
  go_at_call 8
  refine (small_calls w0).mono ?_
  rintro e w1 ⟨rfl, hb1⟩
  obtain ⟨F, hO1⟩ : ∃ F, Owned w0 w1 F := ⟨[], (Owned.nil w0).under hb1⟩
  go_wp2_with fail
  go_at_call 9
  refine (ar_new most hO1).mono ?_
  rintro e w2 ⟨g, r, rfl, hr, hO2⟩
  go_wp2_with fail
  go_ret
  exact ⟨rfl, hO2.below⟩
set_option maxHeartbeats 800000 in
theorem fills_big (most again : Int) (w0 : World) (h1 : 65536 ≤ most) : Calls Try.prog 4 #[.int .i64 most, .int .i64 again] w0 fun e w' => e = .returned (.bool true) ∧ Below w0.heap.size w0 w' := by
  have hm : mostOf most = 65536 := by unfold mostOf; omega
  go_enter Try.func4, Try.ntmps4
  go_wp2_with fail
  go_at_call 8
  refine (small_calls w0).mono ?_
  rintro e w1 ⟨rfl, hb1⟩
  obtain ⟨F, hO1⟩ : ∃ F, Owned w0 w1 F := ⟨[], (Owned.nil w0).under hb1⟩
  go_wp2_with fail
  go_at_call 9
  refine (ar_new most hO1).mono ?_
  rintro e w2 ⟨g, r, rfl, hr, hO2⟩
  rw [hm] at hr
  go_wp2_with fail
  go_at_call 14
  refine (ar_most hr hO2).mono ?_
  rintro e w3 ⟨rfl, rfl⟩
  go_wp2_with fail
  go_ret
  exact ⟨rfl, hO2.below⟩

def FillRel (w0 : World) (F : Own) (g n : Nat) (w : World) : Prop := ∃ S G r, Arena g n S G r ∧ Owned w0 w (r ++ F) ∧ S.length ≤ n
def DropRel (w0 : World) (F : Own) (g n k : Nat) (w : World) : Prop := ∃ S G r, Arena g n S G r ∧ Owned w0 w (r ++ F) ∧ S.length = n ∧ ∀ j : Nat, k ≤ j → j ≤ n → ∃ a b, look S j = some (a, b)
set_option maxHeartbeats 1600000 in
set_option maxRecDepth 100000 in
theorem fills_neg (most again : Int) (w0 : World) (h1 : most < 0) : Calls Try.prog 4 #[.int .i64 most, .int .i64 again] w0 fun e w' => e = .returned (.bool true) ∧ Below w0.heap.size w0 w' := by
  have hn : mostOf most = 0 := by unfold mostOf; omega
  go_enter Try.func4, Try.ntmps4
  go_wp2_with fail
  go_at_call 8
  refine (small_calls w0).mono ?_
  rintro e w1 ⟨rfl, hb1⟩
  obtain ⟨F, hO1⟩ : ∃ F, Owned w0 w1 F := ⟨[], (Owned.nil w0).under hb1⟩
  go_wp2_with fail
  go_at_call 9
  refine (ar_new most hO1).mono ?_
  rintro e w2 ⟨g, r, rfl, hr, hO2⟩
  rw [hn] at hr
  go_wp2_with fail
  go_loopw [8] (fun x wr => ∃ k : Nat, k ≤ 3 ∧ x = .int .i64 k ∧ Hid (∃ r, Arena g 0 [] [] r ∧ Owned w0 wr (r ++ F))) (fun x _ => 3 - (intOf x).toNat)
  case atStart => exact ⟨0, Nat.zero_le _, rfl, r, hr, hO2⟩
  case round =>
    obtain ⟨k, hk, rfl, hrel⟩ := hrel
    obtain ⟨r1, hr1, hO3⟩ := hrel.out
    clear hrel hr hO2
    by_cases hlt : k < 3
    · go_wp2_with fail
      go_loopw [] (fun wr => Hid (∃ r, Arena g 0 [] [] r ∧ Owned w0 wr (r ++ F))) (fun wr => 0)
      case atStart => exact ⟨r1, hr1, hO3⟩
      case round =>
        clear hr1 hO3
        obtain ⟨r1, hr1, hO3⟩ := hrel.out
        go_wp2_with fail
        go_at_call 13
        refine (ar_len hr1 hO3).mono ?_
        rintro e w7 ⟨rfl, rfl⟩
        go_wp2_with fail
        go_at_call 10
        refine (ar_put_full 0 0 hr1 (by simp) hO3).mono ?_
        rintro e w7 ⟨r2, rfl, hr2, hO4⟩
        go_wp2_with fail
        go_at_call 13
        refine (ar_len hr2 hO4).mono ?_
        rintro e w8 ⟨rfl, rfl⟩
        go_wp2_with fail
        go_loopw [14] (fun x14 wr => x14 = .int .i64 1 ∧ Hid (∃ r, Arena g 0 [] [] r ∧ Owned w0 wr (r ++ F))) (fun _ wr => 0)
        case atStart => exact ⟨rfl, r2, hr2, hO4⟩
        case round =>
          clear hr1 hO3 hr2 hO4
          obtain ⟨rfl, hrel⟩ := hrel
          obtain ⟨r2, hr2, hO4⟩ := hrel.out
          go_wp2_with fail
          go_roundw
          case rel => exact ⟨k + 1, by omega, by go_num, r2, hr2, hO4⟩
          case measure => simp [intOf]; omega
    · go_wp2_with fail
      go_ret
      exact ⟨rfl, hO3.below⟩
set_option maxHeartbeats 1600000 in
set_option maxRecDepth 100000 in
theorem fills_walk (most again : Int) (w0 : World) (h0 : 0 ≤ most) (h1 : most ≤ 200) : Calls Try.prog 4 #[.int .i64 most, .int .i64 again] w0 fun e w' => e = .returned (.bool true) ∧ Below w0.heap.size w0 w' := by
  go_enter Try.func4, Try.ntmps4
  go_wp2_with fail
  go_at_call 8
  refine (small_calls w0).mono ?_
  rintro e w1 ⟨rfl, hb1⟩
  obtain ⟨F, hO1⟩ : ∃ F, Owned w0 w1 F := ⟨[], (Owned.nil w0).under hb1⟩
  go_wp2_with fail
  go_at_call 9
  refine (ar_new most hO1).mono ?_
  rintro e w2 ⟨g, r, rfl, hr, hO2⟩
  go_wp2_with fail
  rename_i hA _ _ hB
  clear hA hB
  obtain ⟨n, rfl⟩ : ∃ n : Nat, most = n := ⟨most.toNat, by omega⟩
  have hn : mostOf n = n := by unfold mostOf; omega
  rw [hn] at hr
  clear hn
  go_loopw [8] (fun x wr => ∃ k : Nat, k ≤ 3 ∧ x = .int .i64 k ∧ Hid (FillRel w0 F g n wr)) (fun x _ => 3 - (intOf x).toNat)
  case atStart => exact ⟨0, Nat.zero_le _, rfl, _, _, r, hr, hO2, by simp⟩
  case round =>
    obtain ⟨k, hk, rfl, hrel⟩ := hrel
    obtain ⟨S, G, r1, hr1, hO3, hSn⟩ := hrel.out
    clear hrel hr hO2
    by_cases hlt : k < 3
    · have hd : decide ((k : Int) < 3) = true := decide_eq_true (by omega)
      go_wp2_with fail
      clear hd
      go_loopw [9] (fun _ wr => Hid (FillRel w0 F g n wr)) (fun _ wr => n - heldOf wr g)
      case atStart => exact ⟨S, G, r1, hr1, hO3, hSn⟩
      case round =>
        clear hr1 hO3 hSn
        obtain ⟨S, G, r1, hr1, hO3, hSn⟩ := hrel.out
        clear hrel
        have hGS := hr1.lens
        by_cases hlt2 : S.length - G.length < n
        · cases G with
          | nil =>
            have hS : S.length < n := by simpa using hlt2
            have hme := hr1.heldOf hO3
            go_wp2_with fail
            go_at_call 13
            refine (ar_len hr1 hO3).mono ?_
            rintro e w7 ⟨rfl, rfl⟩
            go_wp2_with fail
            go_at_call 13
            refine (ar_len hr1 hO3).mono ?_
            rintro e w7 ⟨rfl, rfl⟩
            go_wp2_with fail
            go_at_call 10
            refine (ar_put_new 0 0 hr1 hS (by omega) hO3).mono ?_
            rintro e w7 ⟨r2, rfl, hr2, hO4⟩
            have hme2 := hr2.heldOf hO4
            have e1 : (S ++ [some ((0 : Int), (0 : Int))]).length - ([] : List Nat).length = S.length - ([] : List Nat).length + 1 := by simp
            go_wp2_with fail
            go_at_call 13
            refine (ar_len hr2 hO4).mono ?_
            rintro e w8 ⟨rfl, rfl⟩
            rw [e1]
            go_wp2_with fail
            go_roundw
            case rel => exact ⟨_, _, r2, hr2, hO4, by rw [List.length_append, List.length_singleton]; omega⟩
            case measure => rw [hme, hme2, e1]; omega
          | cons x G =>
            obtain ⟨hx1, hx2⟩ := hr1.bound
            simp only [List.length_cons] at hlt2 hGS
            have hme := hr1.heldOf hO3
            go_wp2_with fail
            go_at_call 13
            refine (ar_len hr1 hO3).mono ?_
            rintro e w7 ⟨rfl, rfl⟩
            go_wp2_with fail
            go_at_call 13
            refine (ar_len hr1 hO3).mono ?_
            rintro e w7 ⟨rfl, rfl⟩
            go_wp2_with fail
            go_at_call 10
            refine (ar_put_again 0 0 hr1 (by omega) hO3).mono ?_
            rintro e w7 ⟨r2, rfl, hr2, hO4⟩
            have hme2 := hr2.heldOf hO4
            have e1 : (S.set (x - 1) (some ((0 : Int), (0 : Int)))).length - G.length = S.length - (x :: G).length + 1 := by rw [List.length_set, List.length_cons]; omega
            go_wp2_with fail
            go_at_call 13
            refine (ar_len hr2 hO4).mono ?_
            rintro e w8 ⟨rfl, rfl⟩
            rw [e1]
            go_wp2_with fail
            go_roundw
            case rel => exact ⟨_, _, r2, hr2, hO4, by rw [List.length_set]; omega⟩
            case measure => rw [hme, hme2, e1, List.length_cons]; omega
        · obtain rfl : G = [] := List.eq_nil_of_length_eq_zero (by omega)
          have hSn2 : S.length = n := by simp only [List.length_nil] at hlt2; omega
          have e2 : S.length - ([] : List Nat).length = n := by rw [hSn2]; rfl
          go_wp2_with fail
          go_at_call 13
          refine (ar_len hr1 hO3).mono ?_
          rintro e w7 ⟨rfl, rfl⟩
          rw [e2]
          go_wp2_with fail
          go_at_call 10
          refine (ar_put_full 0 0 hr1 (by rw [hSn2]; simp) hO3).mono ?_
          rintro e w7 ⟨r2, rfl, hr2, hO4⟩
          go_wp2_with fail
          go_at_call 13
          refine (ar_len hr2 hO4).mono ?_
          rintro e w8 ⟨rfl, rfl⟩
          rw [e2]
          go_wp2_with fail
          go_loopw [14] (fun x14 wr => ∃ j : Nat, 1 ≤ j ∧ j ≤ n + 1 ∧ x14 = .int .i64 j ∧ Hid (DropRel w0 F g n j wr)) (fun x14 wr => n + 1 - (intOf x14).toNat)
          case atStart => exact ⟨1, by omega, by omega, rfl, S, [], r2, hr2, hO4, hSn2, fun j h1 h2 => hr2.all_held h1 (by omega)⟩
          case round =>
            clear hr1 hO3 hr2 hO4 hlt2 hSn e2 hGS hSn2
            obtain ⟨j, hj1, hj2, rfl, hrel⟩ := hrel
            obtain ⟨S, G, r2, hr2, hO4, hSn, hall⟩ := hrel.out
            by_cases hlt3 : j ≤ n
            · obtain ⟨a, b, hab⟩ := hall j (Nat.le_refl _) hlt3
              go_wp2_with fail
              · refine (ar_drop hab hr2 hO4).mono ?_
                rintro e w9 ⟨r3, rfl, hr3, hO5⟩
                go_wp2_with fail
                refine ⟨⟨j + 1, by omega, by omega, by go_num, _, _, r3, hr3, hO5, by rw [List.length_set]; exact hSn, fun i hi1 hi2 => ?_⟩, by simp [intOf]; omega⟩
                rw [look_set_ne hj1 (by omega)]
                exact hall i (by omega) hi2
              · exact ⟨⟨j + 1, by omega, by omega, by go_num, S, G, r2, hr2, hO4, hSn, fun i hi1 hi2 => hall i (by omega) hi2⟩, by simp [intOf]; omega⟩
            · go_wp2_with fail
              go_roundw
              case rel => exact ⟨k + 1, by omega, by go_num, S, G, r2, hr2, hO4, by omega⟩
              case measure => simp [intOf]; omega
    · go_wp2_with fail
      go_ret
      exact ⟨rfl, hO3.below⟩
end Go.Proofs.Ytepjebmiegkpnaa
