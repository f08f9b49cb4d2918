/- The statements of layer 5: FilterOrders and FilterCounts, the walks. -/
import Derived.Test.YtachbhgfcdnhdaaFilter3
namespace Go.Proofs.Ytachbhgfcdnhdaa
open Go.RowKit NibPure Go.Sep DoorPure
set_option maxHeartbeats 800000 in
theorem forders_out (seed a b c : Int) (v : Value) (l : List Int) (w0 : World) (hv : Reads w0 v l) (h1 : 300 < l.length) : Calls Try.prog 5 #[.int .i64 seed, v, .int .i64 a, .int .i64 b, .int .i64 c] w0 fun e w' => e = .returned (.bool true) ∧ Below w0.heap.size w0 w' := by
  obtain ⟨hl, A, cp, rfl, _⟩ := hv
  go_enter Try.func5, Try.ntmps5
  go_wp2_with fail
  go_at_call 7
  refine (small_calls w0).mono ?_
  rintro e w1 ⟨rfl, hb1⟩
  go_wp2_with fail
  go_at_call 8
  refine (f_new 20 seed ((Owned.nil w0).under hb1)).mono ?_
  rintro e w2 ⟨g, r, rfl, hr, hO2⟩
  go_wp2_with fail
  go_ret
  exact ⟨rfl, hO2.below⟩
def OrdRel (w0 : World) (F : Own) (g : Nat) (seed : Int) (n k : Nat) (w : World) : Prop := FAt w0 F g seed n (fun st => st.A ≤ k) w
set_option maxHeartbeats 6400000 in
set_option maxRecDepth 100000 in
theorem forders_walk (seed a b c : Int) (v : Value) (l : List Int) (w0 : World) (hv : Reads w0 v l) (hshort : l.length ≤ 300) : Calls Try.prog 5 #[.int .i64 seed, v, .int .i64 a, .int .i64 b, .int .i64 c] w0 fun e w' => e = .returned (.bool true) ∧ Below w0.heap.size w0 w' := by
  obtain ⟨hl, A, cp, rfl, hc⟩ := hv
  generalize hN : l.length = N at *
  have HN := Lib.hid hN
  clear hN
  have HC := Lib.hid hc
  clear hc
  have hd := fun (w : World) (h : Owned w0 w ([] : Own)) => f_new 20 seed h
  obtain ⟨n, hnn⟩ : ∃ n, wordN 20 = n := ⟨_, rfl⟩
  rw [hnn] at hd
  have hA0 : (FSt.new 20).A = 0 := rfl
  have A0 := Lib.hid hA0
  clear hnn hA0
  generalize FSt.new 20 = s0 at *
  go_enter Try.func5, Try.ntmps5
  go_wp2_with fail
  go_at_call 7
  refine (small_calls w0).mono ?_
  rintro e w1 ⟨rfl, hb1⟩
  go_wp2_with fail
  go_at_call 8
  refine (hd _ ((Owned.nil w0).under hb1)).mono ?_
  rintro e w2 ⟨g, r, rfl, hr, hO2⟩
  obtain ⟨F, hO2⟩ : ∃ F, Owned w0 w2 (r ++ F) := ⟨[], hO2⟩
  have HO2 := Lib.hid (show OrdRel w0 F g seed n 0 w2 from ⟨s0, r, hr, show s0.A ≤ 0 by rw [A0.out]; omega, hO2⟩)
  clear hr hO2 hd A0
  go_wp2_with fail
  go_loopw [13] (fun x13 wr => ∃ k : Nat, k ≤ N ∧ x13 = .int .i64 k ∧ Hid (OrdRel w0 F g seed n k wr)) (fun x13 _ => N - (intOf x13).toNat)
  case atStart => exact ⟨0, Nat.zero_le _, rfl, HO2⟩
  case round =>
    clear HO2
    obtain ⟨k, hk, rfl, hrel⟩ := hrel
    obtain ⟨st, r1, hr1, hA, hO⟩ := hrel.out
    clear hrel
    by_cases hlt : k < N
    · obtain ⟨b', off, rfl, hcell⟩ := HC.out (by omega)
      have cx := (hO.below.cell (p := ⟨b', off + k, none⟩) (World.block_lt_of_cell? _ _ (hcell k hlt))).trans (hcell k hlt)
      generalize l.getD k 0 = x at *
      obtain ⟨st', hst⟩ : ∃ s, st.next seed n x = s := ⟨_, rfl⟩
      have hA' := st.next_A seed n x
      rw [hst] at hA'
      have hA2 : st'.A ≤ k + 1 := by omega
      have ST := Lib.hid hst
      have A2 := Lib.hid hA2
      have q : st.A ≤ 1000000 := by omega
      clear hst hA' hA2 hcell HC
      go_wp2_with fail
      go_at_call 10
      refine (f_record x ST.out q hr1 hO).mono ?_
      rintro e w3 ⟨rfl, r3, hr3, hO3⟩
      have HR3 := Lib.hid (And.intro hr3 hO3)
      clear hr1 hO hr3 hO3
      go_wp2_with fail
      go_roundw
      case rel => exact ⟨k + 1, by omega, by go_num, st', r3, HR3.out.1, A2.out, HR3.out.2⟩
      case measure => simp [intOf]; omega
    · obtain rfl : k = N := by omega
      obtain ⟨x, hx⟩ : ∃ x, st.often seed n a = x := ⟨_, rfl⟩
      obtain ⟨y, hy⟩ : ∃ x, st.often seed n b = x := ⟨_, rfl⟩
      obtain ⟨z, hz⟩ : ∃ x, st.often seed n c = x := ⟨_, rfl⟩
      have X := Lib.hid hx
      have Y := Lib.hid hy
      have Z := Lib.hid hz
      obtain ⟨ab, hab⟩ : ∃ t, decide (y < x) = t := ⟨_, rfl⟩
      obtain ⟨ba, hba⟩ : ∃ t, decide (x < y) = t := ⟨_, rfl⟩
      obtain ⟨bc, hbc⟩ : ∃ t, decide (z < y) = t := ⟨_, rfl⟩
      obtain ⟨ac, hac⟩ : ∃ t, decide (z < x) = t := ⟨_, rfl⟩
      have k1 : ¬ (ab = true ∧ ba = true) := by rintro ⟨rfl, rfl⟩; simp at hab hba; omega
      have k2 : ¬ (ab = true ∧ bc = true ∧ ac = false) := by rintro ⟨rfl, rfl, rfl⟩; simp at hab hbc hac; omega
      have k3 : ab = false → ba = false → x = y := by rintro rfl rfl; simp at hab hba; omega
      have BAA := Lib.hid (fun (W : World) (h : Owned w0 W (r1 ++ F)) => f_better a a (t := false) X.out X.out (decide_eq_false (Nat.lt_irrefl _)) hr1 h)
      have BAB := Lib.hid (fun (W : World) (h : Owned w0 W (r1 ++ F)) => f_better a b X.out Y.out hab hr1 h)
      have BBA := Lib.hid (fun (W : World) (h : Owned w0 W (r1 ++ F)) => f_better b a Y.out X.out hba hr1 h)
      have BBC := Lib.hid (fun (W : World) (h : Owned w0 W (r1 ++ F)) => f_better b c Y.out Z.out hbc hr1 h)
      have BAC := Lib.hid (fun (W : World) (h : Owned w0 W (r1 ++ F)) => f_better a c X.out Z.out hac hr1 h)
      have OA := Lib.hid (fun (W : World) (h : Owned w0 W (r1 ++ F)) => f_often a X.out hr1 h)
      have OB := Lib.hid (fun (W : World) (h : Owned w0 W (r1 ++ F)) => f_often b Y.out hr1 h)
      have K3 := Lib.hid k3
      have HO := hO
      clear hx hy hz hab hba hbc hac hA hO hr1 k3 HC
      cases ab <;> cases ba <;> cases bc <;> cases ac
      all_goals first
        | exact absurd ⟨rfl, rfl⟩ k1
        | exact absurd ⟨rfl, rfl, rfl⟩ k2
        | (clear k1 k2
           try obtain rfl := K3.out rfl rfl
           clear K3
           go_wp2_with (first
             | (go_at_call 15; (with_reducible refine (BAA.out _ HO).mono ?_); clear HO; rintro e w' ⟨rfl, HO⟩)
             | (go_at_call 15; (with_reducible refine (BAB.out _ HO).mono ?_); clear HO; rintro e w' ⟨rfl, HO⟩)
             | (go_at_call 15; (with_reducible refine (BBA.out _ HO).mono ?_); clear HO; rintro e w' ⟨rfl, HO⟩)
             | (go_at_call 15; (with_reducible refine (BBC.out _ HO).mono ?_); clear HO; rintro e w' ⟨rfl, HO⟩)
             | (go_at_call 15; (with_reducible refine (BAC.out _ HO).mono ?_); clear HO; rintro e w' ⟨rfl, HO⟩)
             | (go_at_call 13; (with_reducible refine (OA.out _ HO).mono ?_); clear HO; rintro e w' ⟨rfl, HO⟩)
             | (go_at_call 13; (with_reducible refine (OB.out _ HO).mono ?_); clear HO; rintro e w' ⟨rfl, HO⟩))
           go_ret
           exact ⟨rfl, HO.below⟩)
end Go.Proofs.Ytachbhgfcdnhdaa
