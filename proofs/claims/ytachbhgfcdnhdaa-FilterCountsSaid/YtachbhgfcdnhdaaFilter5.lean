/- The statements of layer 5: FilterCounts, the walk. -/
import Derived.Test.YtachbhgfcdnhdaaFilter3
namespace Go.Proofs.Ytachbhgfcdnhdaa
open Go.RowKit NibPure Go.Sep DoorPure
/-- how often a number is among the first ones -/
def ct (x : Int) (l : List Int) : Nat → Nat
  | 0 => 0
  | k + 1 => ct x l k + if l.getD k 0 = x then 1 else 0
theorem ct_le (x : Int) (l : List Int) : ∀ k, ct x l k ≤ k
  | 0 => Nat.le_refl _
  | k + 1 => by have := ct_le x l k; rw [ct]; split <;> omega
theorem ct_mono (x : Int) (l : List Int) (f : Nat) : ∀ k, f ≤ k → ct x l f ≤ ct x l k
  | 0, h => by obtain rfl : f = 0 := by omega
               exact Nat.le_refl _
  | k + 1, h => by
    by_cases e : f = k + 1
    · rw [e]; exact Nat.le_refl _
    · have := ct_mono x l f k (by omega)
      rw [ct]; omega
def c2 (x : Int) (l : List Int) (f k : Nat) : Nat := ct x l k - ct x l f
theorem c2_self (x : Int) (l : List Int) (k : Nat) : c2 x l k k = 0 := Nat.sub_self _
theorem c2_succ (x : Int) (l : List Int) {f k : Nat} (h : f ≤ k) : c2 x l f (k + 1) = c2 x l f k + if l.getD k 0 = x then 1 else 0 := by
  have := ct_mono x l f k h
  unfold c2
  rw [ct]
  split <;> omega
theorem c2_le (x : Int) (l : List Int) (f k : Nat) : c2 x l f k ≤ k := by
  have := ct_le x l k
  unfold c2
  omega
structure CInv (seed : Int) (n : Nat) (l : List Int) (f k : Nat) (st : FSt) : Prop where
  le : f ≤ k
  A : st.A ≤ k
  lo : Lo st.S
  all : ∀ x, 1 ≤ c2 x l f k → hasB seed x st.B = true ∧ min (c2 x l f k - 1) 15 ≤ mnS st.S (plS seed x (16 * n)) 4
theorem CInv.aged {seed : Int} {n : Nat} {l : List Int} {f k : Nat} {st : FSt} (h : CInv seed n l f k st) (hA : (st.next seed n (l.getD k 0)).A = st.A + 1) : CInv seed n l (k + 1) (k + 1) (st.next seed n (l.getD k 0)) :=
  ⟨Nat.le_refl _, by have := h.A; omega, FSt.next_lo _ h.lo, fun x hx => by rw [c2_self] at hx; omega⟩
theorem CInv.next {seed : Int} {n : Nat} {l : List Int} {f k : Nat} {st : FSt} (h : CInv seed n l f k st) (hl : 1 ≤ st.B.length) (hA : (st.next seed n (l.getD k 0)).A = st.A) : CInv seed n l f (k + 1) (st.next seed n (l.getD k 0)) := by
  refine ⟨by have := h.le; omega, by have := h.A; omega, FSt.next_lo _ h.lo, fun x hx => ?_⟩
  have hc := c2_succ x l h.le
  have hall := h.all x
  generalize c2 x l f k = c at *
  generalize c2 x l f (k + 1) = c' at *
  generalize hkey : l.getD k 0 = key at *
  by_cases hb : hasB seed key st.B = true
  · have hag : st.aged seed n key = false := by
      unfold FSt.next at hA
      rw [if_pos hb] at hA
      cases hag : st.aged seed n key with
      | false => rfl
      | true => rw [hag] at hA; simp at hA
    have e : st.next seed n key = ⟨numOf st.N (st.more seed n key) false, addOf st.S (plS seed key (16 * n)) false, putB seed key st.B, st.A⟩ := by
      unfold FSt.next
      rw [if_pos hb, hag]
      simp
    rw [e]
    have hS : addOf st.S (plS seed key (16 * n)) false = addS st.S (plS seed key (16 * n)) 4 := by funext i c; unfold addOf; rw [if_neg (by simp)]
    show hasB seed x (putB seed key st.B) = true ∧ min (c' - 1) 15 ≤ mnS (addOf st.S (plS seed key (16 * n)) false) (plS seed x (16 * n)) 4
    rw [hS]
    have hmono := mnS_mono (addS_mono h.lo (plS seed key (16 * n))) (plS seed x (16 * n))
    by_cases ex : key = x
    · subst ex
      rw [if_pos rfl] at hc
      refine ⟨has_put _ _ hl, ?_⟩
      rw [mnS_add h.lo]
      by_cases h1 : 1 ≤ c
      · have := (hall h1).2; omega
      · omega
    · rw [if_neg ex] at hc
      have h1 := hall (by omega)
      refine ⟨has_mono _ _ _ hl h1.1, ?_⟩
      have := h1.2
      omega
  · have e : st.next seed n key = ⟨st.N, st.S, putB seed key st.B, st.A⟩ := by
      unfold FSt.next
      rw [if_neg hb]
    rw [e]
    show hasB seed x (putB seed key st.B) = true ∧ min (c' - 1) 15 ≤ mnS st.S (plS seed x (16 * n)) 4
    by_cases ex : key = x
    · subst ex
      rw [if_pos rfl] at hc
      have h1 : ¬ 1 ≤ c := fun h1 => hb (hall h1).1
      exact ⟨has_put _ _ hl, by omega⟩
    · rw [if_neg ex] at hc
      have h1 := hall (by omega)
      exact ⟨has_mono _ _ _ hl h1.1, by have := h1.2; omega⟩
theorem CInv.often {seed : Int} {n : Nat} {l : List Int} {f k : Nat} {st : FSt} (h : CInv seed n l f k st) (x : Int) : min (c2 x l f k) 16 ≤ st.often seed n x := by
  unfold FSt.often
  by_cases h1 : 1 ≤ c2 x l f k
  · have := h.all x h1
    rw [if_pos this.1]
    omega
  · omega
theorem CInv.zero (seed : Int) (n : Nat) (l : List Int) (cap : Int) : CInv seed n l 0 0 (FSt.new cap) :=
  ⟨Nat.le_refl _, Nat.le_refl _, fun _ _ => Nat.zero_le _, fun x hx => by rw [c2_self] at hx; omega⟩
set_option maxHeartbeats 800000 in
theorem fcounts_out (cap seed : Int) (v : Value) (l : List Int) (w0 : World) (hv : Reads w0 v l) (h1 : 1024 < cap ∨ (cap ≤ 1024 ∧ 300 < l.length)) : Calls Try.prog 4 #[.int .i64 cap, .int .i64 seed, v] w0 fun e w' => e = .returned (.bool true) ∧ Below w0.heap.size w0 w' := by
  obtain ⟨hl, A, cp, rfl, _⟩ := hv
  rcases h1 with h1 | ⟨h1, h2⟩
  all_goals
    go_enter Try.func4, Try.ntmps4
    go_wp2_with fail
    go_at_call 7
    refine (small_calls w0).mono ?_
    rintro e w1 ⟨rfl, hb1⟩
    go_wp2_with fail
    go_ret
    exact ⟨rfl, hb1⟩
/-- the row of keys as it can be read in any later world -/
def KeysAt (w0 : World) (b off N : Nat) (l : List Int) : Prop := ∀ m, m < N → ∀ W (l' : Own), Owned w0 W l' → W.cell? ⟨b, off + m, none⟩ = some (.int .i64 (l.getD m 0))
set_option maxHeartbeats 6400000 in
set_option maxRecDepth 100000 in
theorem fcounts_walk (cap seed : Int) (v : Value) (l : List Int) (w0 : World) (hv : Reads w0 v l) (h1 : cap ≤ 1024) (hshort : l.length ≤ 300) : Calls Try.prog 4 #[.int .i64 cap, .int .i64 seed, v] w0 fun e w' => e = .returned (.bool true) ∧ Below w0.heap.size w0 w' := by
  obtain ⟨hl, A, cp, rfl, hc⟩ := hv
  generalize hN : l.length = N at *
  have HN := Lib.hid hN
  clear hN
  have HC := Lib.hid hc
  clear hc
  have hd := fun (w : World) (h : Owned w0 w ([] : Own)) => f_new cap seed h
  obtain ⟨n, hnn⟩ : ∃ n, wordN cap = n := ⟨_, rfl⟩
  rw [hnn] at hd
  have Z := Lib.hid (CInv.zero seed n l cap)
  have hmin := min_if2
  clear hnn
  generalize FSt.new cap = s0 at *
  go_enter Try.func4, Try.ntmps4
  go_wp2_with fail
  go_at_call 7
  refine (small_calls w0).mono ?_
  rintro e w1 ⟨rfl, hb1⟩
  go_wp2_with fail
  go_at_call 8
  refine (hd _ ((Owned.nil w0).under hb1)).mono ?_
  rintro e w2 ⟨g, r, rfl, hr, hO2⟩
  obtain ⟨F, hO2⟩ : ∃ F, Owned w0 w2 (r ++ F) := ⟨[], hO2⟩
  have HO2 := Lib.hid (show FAt w0 F g seed n (CInv seed n l 0 0) w2 from ⟨s0, r, hr, Z.out, hO2⟩)
  clear hr hO2 hd Z
  go_wp2_with fail
  go_loopw [9, 10] (fun x9 x10 wr => ∃ f k : Nat, f ≤ k ∧ k ≤ N ∧ x10 = .int .i64 k ∧ x9 = .int .i64 f ∧ Hid (FAt w0 F g seed n (CInv seed n l f k) wr)) (fun _ x10 _ => N - (intOf x10).toNat)
  case atStart => exact ⟨0, 0, Nat.zero_le _, Nat.zero_le _, rfl, rfl, HO2⟩
  case round =>
    clear HO2
    obtain ⟨f, k, hf, hk, rfl, rfl, hrel⟩ := hrel
    obtain ⟨st, r1, hr1, hI, hO⟩ := hrel.out
    clear hrel
    by_cases hlt : k < N
    · obtain ⟨b', off, rfl, hcell⟩ := HC.out (by omega)
      have HX := Lib.hid (show KeysAt w0 b' off N l from fun m hm W l' h => (h.below.cell (p := ⟨b', off + m, none⟩) (World.block_lt_of_cell? _ _ (hcell m hm))).trans (hcell m hm))
      clear hcell HC
      have cx := HX.out k hlt _ _ hO
      obtain ⟨x, hx⟩ : ∃ x, l.getD k 0 = x := ⟨_, rfl⟩
      rw [hx] at cx
      have HXX := Lib.hid hx
      obtain ⟨st', hst⟩ : ∃ s, st.next seed n x = s := ⟨_, rfl⟩
      have ST := Lib.hid hst
      have hA' := st.next_A seed n x
      rw [hst] at hA'
      have q : st.A ≤ 1000000 := by have := hI.A; omega
      obtain ⟨f', hf', hI', ht⟩ : ∃ f', f' ≤ k + 1 ∧ CInv seed n l f' (k + 1) st' ∧ ((st'.A = st.A ∧ f' = f) ∨ (st'.A = st.A + 1 ∧ f' = k + 1)) := by
        rcases hA' with hA' | hA'
        · refine ⟨f, by omega, ?_, Or.inl ⟨hA', rfl⟩⟩
          have := hI.next hr1.len (by rw [hx, hst]; exact hA')
          rw [hx, hst] at this
          exact this
        · refine ⟨k + 1, Nat.le_refl _, ?_, Or.inr ⟨hA', rfl⟩⟩
          have := hI.aged (by rw [hx, hst]; exact hA')
          rw [hx, hst] at this
          exact this
      obtain ⟨o, ho⟩ : ∃ o, st'.often seed n x = o := ⟨_, rfl⟩
      obtain ⟨cn, hcn⟩ : ∃ m, c2 x l f' (k + 1) = m := ⟨_, rfl⟩
      have o1 := hI'.often x
      rw [ho, hcn] at o1
      have o2 := FSt.often_le (seed := seed) (n := n) x hI'.lo
      rw [ho] at o2
      have cl := c2_le x l f' (k + 1)
      rw [hcn] at cl
      have CN := Lib.hid hcn
      have OF := Lib.hid ho
      have II := Lib.hid hI'
      have t1 : decide ((o : Int) < min (cn : Int) 16) = false := decide_eq_false (by omega)
      have t2 : decide ((16 : Int) < (o : Int)) = false := decide_eq_false (by omega)
      have t2' : decide (16 < o) = false := decide_eq_false (by omega)
      clear hst hA' hI hx ho hcn o1 o2 hI'
      have ca := fun (W : World) (r : Own) (hr : FilterAt g seed n st r) (h : Owned w0 W (r ++ F)) => f_ages hr h
      have cb := fun (W : World) (r : Own) (hr : FilterAt g seed n st' r) (h : Owned w0 W (r ++ F)) => f_ages hr h
      obtain ⟨a, ha⟩ : ∃ a, st.A = a := ⟨_, rfl⟩
      rw [ha] at ca ht q
      have CR := Lib.hid (f_record x ST.out (by omega) hr1 hO)
      rcases ht with ⟨h3, h4⟩ | ⟨h3, h4⟩
      all_goals
        rw [h3] at cb
        have CA := Lib.hid ca
        have CB := Lib.hid cb
        subst h4
        clear ca cb ha h3
      · go_wp2_with fail
        go_at_call 14
        refine (CA.out _ _ hr1 hO).mono ?_
        rintro e w3 ⟨rfl, rfl⟩
        go_wp2_with fail
        go_at_call 10
        refine (CR.out).mono ?_
        rintro e w4 ⟨rfl, r4, hr4, hO4⟩
        clear hr1 hO cx
        go_wp2_with fail
        go_at_call 14
        refine (CB.out _ _ hr4 hO4).mono ?_
        rintro e w5 ⟨rfl, rfl⟩
        have HO4 := Lib.hid (show FAt w0 F g seed n (fun s => s = st') w4 from ⟨st', r4, hr4, rfl, hO4⟩)
        clear hr4 hO4
        go_wp2_with fail
        go_loopw [12, 13] (fun x12 x13 wr => ∃ j : Nat, f' ≤ j ∧ j ≤ k + 1 ∧ x13 = .int .i64 j ∧ x12 = .int .i64 (c2 x l f' j : Nat) ∧ Hid (FAt w0 F g seed n (fun s => s = st') wr)) (fun _ x13 _ => k + 1 - (intOf x13).toNat)
        case atStart => exact ⟨f', Nat.le_refl _, by omega, rfl, by rw [c2_self]; rfl, HO4⟩
        case round =>
          clear HO4
          obtain ⟨j, hfj, hj, rfl, rfl, hrel⟩ := hrel
          obtain ⟨s5, r5, hr5, hs5, hO5⟩ := hrel.out
          subst hs5
          clear hrel
          by_cases hlj : j < k + 1
          · have cy := HX.out j (by omega) _ _ hO5
            have cz := HX.out k hlt _ _ hO5
            rw [HXX.out] at cz
            have hjl := c2_le x l f' j
            have HS := Lib.hid (c2_succ x l hfj)
            have HO6 := Lib.hid (And.intro hr5 hO5)
            clear hr5 hO5 t1 t2 t2'
            generalize c2 x l f' j = cj at *
            obtain ⟨y, hy⟩ : ∃ y, l.getD j 0 = y := ⟨_, rfl⟩
            rw [hy] at cy
            have HY := Lib.hid hy
            clear hy
            replace cy := cell_regrown cy
            replace cz := cell_regrown cz
            have hjk : decide (j ≤ k) = true := decide_eq_true (by omega)
            by_cases e : y = x
            all_goals
              go_wp2_with fail
              refine wp_region_quiet_below (by kernel_rfl) (by kernel_rfl) ?_
              repeat (first | go_big_quiet_step (fail) | quiet_step (fail))
              refine wpQuiet_nil ?_
              intro _ hw'
              obtain ⟨⟨dq, osq⟩, hw''⟩ := hw'
              subst hw''
              have HO7 := Lib.hid (HO6.out.2.under (below_regrown _ dq osq))
              go_wp2_with fail
              go_roundw
              case rel => exact ⟨j + 1, by omega, by omega, by go_num, by rw [HS.out, HY.out]; first | (rw [if_pos e]; go_num) | (rw [if_neg e]; go_num), _, r5, HO6.out.1, rfl, HO7.out⟩
              case measure => simp [intOf]; omega
          · obtain rfl : j = k + 1 := by omega
            rw [CN.out]
            have hjk : decide (k + 1 ≤ k) = false := decide_eq_false (by omega)
            have cx6 := HX.out k hlt _ _ hO5
            rw [HXX.out] at cx6
            have t5 : decide (a < a) = false := decide_eq_false (by omega)
            have t6 : decide ((a : Int) + 1 < (a : Int)) = false := decide_eq_false (by omega)
            go_wp2_with fail
            go_at_call 13
            refine (f_often x OF.out hr5 hO5).mono ?_
            rintro e w7 ⟨rfl, hO7⟩
            go_wp2_with fail
            go_at_call 14
            refine (CB.out _ _ hr5 hO7).mono ?_
            rintro e w8 ⟨rfl, rfl⟩
            go_wp2_with fail
            go_at_call 14
            refine (CB.out _ _ hr5 hO7).mono ?_
            rintro e w8 ⟨rfl, rfl⟩
            have HO8 := Lib.hid (And.intro hr5 hO7)
            clear hr5 hO5 hO7 cx6
            go_wp2_with fail
            go_roundw
            case rel => exact ⟨f', k + 1, by omega, by omega, by go_num, rfl, _, r5, HO8.out.1, II.out, HO8.out.2⟩
            case measure => simp [intOf]; omega
      · have t7 : (((a : Nat) : Int) + 1 != ((a : Nat) : Int)) = true := by rw [bne_iff_ne]; omega
        go_wp2_with fail
        go_at_call 14
        refine (CA.out _ _ hr1 hO).mono ?_
        rintro e w3 ⟨rfl, rfl⟩
        go_wp2_with fail
        go_at_call 10
        refine (CR.out).mono ?_
        rintro e w4 ⟨rfl, r4, hr4, hO4⟩
        clear hr1 hO cx
        go_wp2_with fail
        go_at_call 14
        refine (CB.out _ _ hr4 hO4).mono ?_
        rintro e w5 ⟨rfl, rfl⟩
        have HO4 := Lib.hid (And.intro hr4 hO4)
        have hjk : decide (k + 1 ≤ k) = false := decide_eq_false (by omega)
        clear hr4 hO4
        have cx6 := HX.out k hlt _ _ HO4.out.2
        rw [HXX.out] at cx6
        have t6 : decide ((a : Int) + 1 < (a : Int)) = false := decide_eq_false (by omega)
        have t8 : decide ((a : Int) + 1 < (a : Int) + 1) = false := decide_eq_false (by omega)
        clear t1
        go_wp2_with fail
        refine wp_loop_rounds 1 ?_
        rw [rounds_succ]
        go_wp2_with fail
        go_at_call 13
        refine (f_often x OF.out HO4.out.1 HO4.out.2).mono ?_
        rintro e w7 ⟨rfl, hO7⟩
        go_wp2_with fail
        go_at_call 14
        refine (CB.out _ _ HO4.out.1 hO7).mono ?_
        rintro e w8 ⟨rfl, rfl⟩
        go_wp2_with fail
        go_at_call 14
        refine (CB.out _ _ HO4.out.1 hO7).mono ?_
        rintro e w8 ⟨rfl, rfl⟩
        have HO8 := Lib.hid hO7
        clear hO7 cx6
        go_wp2_with fail
        go_roundw
        case rel => exact ⟨k + 1, k + 1, by omega, by omega, by go_num, by go_num, _, r4, HO4.out.1, II.out, HO8.out⟩
        case measure => simp [intOf]; omega
    · obtain rfl : k = N := by omega
      go_wp2_with fail
      go_ret
      exact ⟨rfl, hO.below⟩
end Go.Proofs.Ytachbhgfcdnhdaa
