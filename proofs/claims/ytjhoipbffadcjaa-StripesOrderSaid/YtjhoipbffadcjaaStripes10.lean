/- The statements of layer 13: StripesOrder, the walk. -/
import Derived.Test.YtjhoipbffadcjaaStripes9
namespace Go.Proofs.Ytjhoipbffadcjaa
open Go.RowKit Go.Sep
set_option maxHeartbeats 800000 in
theorem order_out (count size seed : Int) (v : Value) (l : List Int) (w0 : World) (hv : Reads w0 v l) (h1 : 200 < l.length) : Calls Try.prog 6 #[.int .i64 count, .int .i64 size, .int .i64 seed, v] w0 fun e w' => e = .returned (.bool true) ∧ Below w0.heap.size w0 w' := by
  obtain ⟨hl, A, c, rfl, _⟩ := hv
  go_enter Try.func6, Try.ntmps6
  go_wp2_with fail
  go_at_call 7
  refine (small_calls w0).mono ?_
  rintro e w1 ⟨rfl, hb1⟩
  go_wp2_with fail
  go_at_call 8
  refine (st_new count size seed ((Owned.nil w0).under hb1)).mono ?_
  rintro e w2 ⟨g, r, rfl, hr, hO2⟩
  go_wp2_with fail
  go_ret
  exact ⟨rfl, hO2.below⟩
def OrdR (w0 : World) (F : Own) (g : Nat) (seed : Int) (R m k o : Nat) (vi vo : Value) (w : World) : Prop :=
  ∃ IN OUT L G qi qo r, Row 3 1 vi IN.length (ints IN) qi ∧ Row 3 1 vo OUT.length (ints OUT) qo ∧ StAt g seed R m L G r ∧ Owned w0 w (qi ++ (qo ++ (r ++ F))) ∧
    Ord m (fun t => plT seed t m) L IN OUT ∧ o = OUT.length + sumL L m + sumG G m ∧ o ≤ k
def TwoR (w0 : World) (X : Own) (IN OUT : List Int) (t i : Nat) (va vb : Value) (w : World) : Prop :=
  ∃ qa qb, Row 3 1 va (flt (t : Int) (IN.take i)).length (ints (flt (t : Int) (IN.take i))) qa ∧ Row 3 1 vb (flt (t : Int) (OUT.take i)).length (ints (flt (t : Int) (OUT.take i))) qb ∧ Owned w0 w (qa ++ (qb ++ X))
set_option maxHeartbeats 6400000 in
set_option maxRecDepth 100000 in
theorem order_walk (count size seed : Int) (v : Value) (l : List Int) (w0 : World) (hv : Reads w0 v l) (hshort : l.length ≤ 200) (hbd : ∀ x ∈ l, -9223372036854775808 ≤ x ∧ x ≤ 9223372036854775807) : Calls Try.prog 6 #[.int .i64 count, .int .i64 size, .int .i64 seed, v] w0 fun e w' => e = .returned (.bool true) ∧ Below w0.heap.size w0 w' := by
  obtain ⟨hl, A, c, rfl, hc⟩ := hv
  have HBD := Lib.hid (show ∀ k, l.getD k 0 ≤ 9223372036854775807 from fun k => by
    by_cases h : k < l.length
    · have e : l.getD k 0 = l[k] := by simp [List.getD, h]
      rw [e]; exact (hbd _ (List.getElem_mem _)).2
    · simp [List.getD, List.getElem?_eq_none (by omega : l.length ≤ k)])
  generalize hN : l.length = N at *
  clear hN hbd
  have HC := Lib.hid hc
  clear hc
  have hd := fun (w : World) (F : Own) (h : Owned w0 w F) => st_new count size seed h
  obtain ⟨m1, m2⟩ := stripeN_bd count
  generalize stripeN count = m at *
  generalize ringSize size = R at *
  go_enter Try.func6, Try.ntmps6
  go_wp2_with fail
  go_at_call 7
  refine (small_calls w0).mono ?_
  rintro e w1 ⟨rfl, hb1⟩
  go_wp2_with fail
  go_at_call 8
  refine (hd _ _ ((Owned.nil w0).under hb1)).mono ?_
  rintro e w2 ⟨g, r, rfl, hr, hO2⟩
  obtain ⟨F, hO2⟩ : ∃ F, Owned w0 w2 (r ++ F) := ⟨[], hO2⟩
  have HO2 := Lib.hid (show OrdR w0 F g seed R m 0 0 (.slice none 0 0) (.slice none 0 0) w2 from ⟨[], [], _, _, [], [], r, Row.nil _ _, Row.nil _ _, hr, hO2, ⟨fun t => rfl, fun _ _ _ _ => rfl, by rw [sumL_nil]; rfl⟩, by rw [sumL_nil, sumG_zero]; rfl, Nat.le_refl _⟩)
  clear hr hO2 hd
  go_wp2_with fail
  go_loopw [11, 12, 13, 14] (fun x11 x12 x13 x14 wr => ∃ k o : Nat, k ≤ N ∧ x14 = .int .i64 k ∧ x13 = .int .i64 o ∧ Hid (OrdR w0 F g seed R m k o x11 x12 wr)) (fun _ _ _ x14 _ => N - (intOf x14).toNat)
  case atStart => exact ⟨0, 0, Nat.zero_le _, rfl, rfl, HO2⟩
  case round =>
    clear HO2
    obtain ⟨k, o, hk, rfl, rfl, hrel⟩ := hrel
    obtain ⟨IN, OUT, L, G, qi, qo, r, hrin, hrout, hr, hO, hord, ho, hok⟩ := hrel.out
    clear hrel
    obtain ⟨Ao, co, rfl⟩ := hrout.slice
    obtain ⟨Ai, ci, rfl⟩ := hrin.slice
    have hin := hord.len
    by_cases hlt : k < N
    · obtain ⟨b, off, rfl, hcell⟩ := HC.out (by omega)
      have HX := Lib.hid (show ∀ W (l' : Own), Owned w0 W l' → W.cell? ⟨b, off + k, none⟩ = some (.int .i64 (l.getD k 0)) from fun W l' h => (h.below.cell (p := ⟨b, off + k, none⟩) (World.block_lt_of_cell? _ _ (hcell k hlt))).trans (hcell k hlt))
      have hx2 := HBD.out k
      clear hcell HC
      generalize l.getD k 0 = x at *
      have cx := HX.out _ _ hO
      have ORD := Lib.hid hord
      have hm1 : IN.length + 1 ≤ maxLen := by unfold maxLen; omega
      have hm2 : (IN.length + 1) * 8 ≤ 140737488355328 := by omega
      have hm3 : OUT.length + 1 ≤ maxLen := by unfold maxLen; omega
      have hm4 : (OUT.length + 1) * 8 ≤ 140737488355328 := by omega
      have HR := Lib.hid hr
      have HROWI := Lib.hid hrin
      have HROWO := Lib.hid hrout
      have HO := Lib.hid hO
      have HOK := Lib.hid ho
      clear hord hr hO hrin hrout
      by_cases hx : x < 0
      · clear ho hin hm1 hm2
        rcases first_of L m with hnone | ⟨p, y, K, hp, hfirst, hL⟩
        · have CT := Lib.hid (st_take_none hnone HR.out HO.out.third)
          obtain ⟨bl, hbl⟩ : ∃ n, sumL L m = n := ⟨_, rfl⟩
          obtain ⟨gl, hgl⟩ : ∃ n, sumG G m = n := ⟨_, rfl⟩
          have h5 := HOK.out
          rw [hbl, hgl] at h5
          have CL := Lib.hid (fun (W : World) (r : Own) (X : Own) (hr : StAt g seed R m L G r) (h : Owned w0 W (r ++ X)) => (hbl ▸ st_Len hr h : Calls Try.prog 15 #[.pointer (some ⟨g, 0, none⟩)] W fun e w' => e = .returned (.int .i64 (bl : Nat)) ∧ W = w'))
          have CG := Lib.hid (fun (W : World) (r : Own) (X : Own) (hr : StAt g seed R m L G r) (h : Owned w0 W (r ++ X)) => (hgl ▸ st_Lost hr h : Calls Try.prog 14 #[.pointer (some ⟨g, 0, none⟩)] W fun e w' => e = .returned (.int .i64 (gl : Nat)) ∧ W = w'))
          have t1 : (((o : Nat) : Int) != (OUT.length : Int) + (bl : Int) + (gl : Int)) = false := by rw [bne_eq_false_iff_eq]; omega
          have b2 : (bl : Int) ≤ 1000 := by omega
          have b3 : (gl : Int) ≤ 1000 := by omega
          have b4 : (OUT.length : Int) ≤ 1000 := by omega
          clear hnone hbl hgl h5
          go_wp2_with fail
          go_at_call 17
          refine (CT.out).mono ?_
          rintro e w3 ⟨rfl, r3, hr3, hO3⟩
          go_wp2_with fail
          go_at_call 15
          refine (CL.out _ _ _ hr3 hO3).mono ?_
          rintro e w4 ⟨rfl, rfl⟩
          go_wp2_with fail
          go_at_call 14
          refine (CG.out _ _ _ hr3 hO3).mono ?_
          rintro e w4 ⟨rfl, rfl⟩
          have HN := Lib.hid (show OrdR w0 F g seed R m (k + 1) o (.slice Ai IN.length ci) (.slice Ao OUT.length co) w3 from ⟨IN, OUT, L, G, qi, qo, r3, HROWI.out, HROWO.out, hr3, hO3.back3, ORD.out, HOK.out, by omega⟩)
          clear hr3 hO3
          go_wp2_with fail
          go_roundw
          case rel => exact ⟨k + 1, o, by omega, by go_num, rfl, HN⟩
          case measure => simp [intOf]; omega
        · have CT := Lib.hid (st_take_some hp hfirst hL HR.out HO.out.third)
          have ORD2 := Lib.hid (ORD.out.take hp hL)
          have hs := sumL_updF L p K m hp
          rw [hL, List.length_cons] at hs
          obtain ⟨bl, hbl⟩ : ∃ n, sumL (updF L p K) m = n := ⟨_, rfl⟩
          obtain ⟨gl, hgl⟩ : ∃ n, sumG G m = n := ⟨_, rfl⟩
          have h5 := HOK.out
          rw [hgl] at h5
          rw [hbl] at hs
          have HOK2 := Lib.hid (show o = (OUT ++ [y]).length + sumL (updF L p K) m + sumG G m by rw [hbl, hgl, List.length_append, List.length_singleton]; omega)
          have CL := Lib.hid (fun (W : World) (r : Own) (X : Own) (hr : StAt g seed R m (updF L p K) G r) (h : Owned w0 W (r ++ X)) => (hbl ▸ st_Len hr h : Calls Try.prog 15 #[.pointer (some ⟨g, 0, none⟩)] W fun e w' => e = .returned (.int .i64 (bl : Nat)) ∧ W = w'))
          have CG := Lib.hid (fun (W : World) (r : Own) (X : Own) (hr : StAt g seed R m (updF L p K) G r) (h : Owned w0 W (r ++ X)) => (hgl ▸ st_Lost hr h : Calls Try.prog 14 #[.pointer (some ⟨g, 0, none⟩)] W fun e w' => e = .returned (.int .i64 (gl : Nat)) ∧ W = w'))
          have t1 : (((o : Nat) : Int) != (OUT.length : Int) + 1 + (bl : Int) + (gl : Int)) = false := by rw [bne_eq_false_iff_eq]; omega
          have b2 : (bl : Int) ≤ 1000 := by omega
          have b3 : (gl : Int) ≤ 1000 := by omega
          have b4 : (OUT.length : Int) ≤ 1000 := by omega
          clear hfirst hL hbl hgl h5 hs
          go_wp2_with fail
          go_at_call 17
          refine (CT.out).mono ?_
          rintro e w3 ⟨rfl, r3, hr3, hO3⟩
          have hrout := HROWO.out
          have hO4 := hO3.third
          go_wp2_with (at_builtin; refine append_one rfl (.tmp 56) (.tmp 58) 26 rfl 3 (.int .i64 0) 8 Try.underlying26 infoI rfl _ OUT.length _ qo _ _ rfl hrout hO4 rfl rfl hm3 hm4 ?_)
          intro v2 q2 w5 hrow2 hO5
          obtain ⟨A2, c2, rfl⟩ := hrow2.slice
          have HN := Lib.hid (show OrdR w0 F g seed R m (k + 1) o (.slice Ai IN.length ci) (.slice A2 (OUT.length + 1) c2) w5 from ⟨IN, OUT ++ [y], _, G, qi, q2, r3, HROWI.out, by rw [List.length_append, List.length_singleton, ints_append]; exact hrow2, hr3, hO5.third, ORD2.out, HOK2.out, by omega⟩)
          have hO6 := hO5.comm
          clear hO3 hO4 hrow2 hO5 hrout
          go_wp2_with fail
          go_at_call 15
          refine (CL.out _ _ _ hr3 hO6).mono ?_
          rintro e w6 ⟨rfl, rfl⟩
          go_wp2_with fail
          go_at_call 14
          refine (CG.out _ _ _ hr3 hO6).mono ?_
          rintro e w6 ⟨rfl, rfl⟩
          go_wp2_with fail
          go_roundw
          case rel => exact ⟨k + 1, o, by omega, by go_num, rfl, HN⟩
          case measure => simp [intOf]; omega
      · obtain ⟨t, ht8, ht, htn⟩ := and7_of (x := x) (by omega) hx2
        have htn := htn k (by omega)
        have hx' : decide (x < 0) = false := decide_eq_false hx
        obtain ⟨p, hp⟩ : ∃ p, plT seed (t : Int) m = p := ⟨_, rfl⟩
        have hpm : p < m := by rw [← hp]; exact plT_lt _ _ m1
        obtain ⟨y, hy⟩ : ∃ y : Int, (t : Int) + 8 * (k : Int) = y := ⟨_, rfl⟩
        have hgp := sumG_ge G p m hpm
        have hgall : ∀ i, i < m → G i + 1 ≤ 1000000 := fun i hi => by have := sumG_ge G i m hi; omega
        by_cases hroom : (L p).length < R
        · have CT := Lib.hid (st_offer (t : Int) ((t : Int) + 8 * (k : Int)) hp (decide_eq_true hroom) hgall HR.out HO.out.third)
          rw [off_room hroom, offG_room hroom] at CT
          have ORD2 := Lib.hid (show Ord m (fun t => plT seed t m) (updF L p (L p ++ [(t : Int) + 8 * (k : Int)])) (IN ++ [(t : Int) + 8 * (k : Int)]) OUT from by
            have := ORD.out.offer (v := (t : Int) + 8 * (k : Int)) (t := (t : Int)) htn (by rw [hp]; exact hpm)
            rw [hp] at this
            exact this)
          have hs := sumL_updF L p (L p ++ [(t : Int) + 8 * (k : Int)]) m hpm
          rw [List.length_append, List.length_singleton] at hs
          obtain ⟨bl, hbl⟩ : ∃ n, sumL (updF L p (L p ++ [(t : Int) + 8 * (k : Int)])) m = n := ⟨_, rfl⟩
          obtain ⟨gl, hgl⟩ : ∃ n, sumG G m = n := ⟨_, rfl⟩
          have h5 := HOK.out
          rw [hgl] at h5
          rw [hbl] at hs
          have HOK2 := Lib.hid (show o + 1 = OUT.length + sumL (updF L p (L p ++ [(t : Int) + 8 * (k : Int)])) m + sumG G m by rw [hbl, hgl]; omega)
          have CL := Lib.hid (fun (W : World) (r : Own) (X : Own) (hr : StAt g seed R m (updF L p (L p ++ [(t : Int) + 8 * (k : Int)])) G r) (h : Owned w0 W (r ++ X)) => (hbl ▸ st_Len hr h : Calls Try.prog 15 #[.pointer (some ⟨g, 0, none⟩)] W fun e w' => e = .returned (.int .i64 (bl : Nat)) ∧ W = w'))
          have CG := Lib.hid (fun (W : World) (r : Own) (X : Own) (hr : StAt g seed R m (updF L p (L p ++ [(t : Int) + 8 * (k : Int)])) G r) (h : Owned w0 W (r ++ X)) => (hgl ▸ st_Lost hr h : Calls Try.prog 14 #[.pointer (some ⟨g, 0, none⟩)] W fun e w' => e = .returned (.int .i64 (gl : Nat)) ∧ W = w'))
          have t1 : (((o : Nat) : Int) + 1 != (OUT.length : Int) + (bl : Int) + (gl : Int)) = false := by rw [bne_eq_false_iff_eq]; omega
          have b1 : (o : Int) ≤ 1000000 := by omega
          have b2 : (bl : Int) ≤ 1000 := by omega
          have b3 : (gl : Int) ≤ 1000 := by omega
          have b4 : (OUT.length : Int) ≤ 1000 := by omega
          clear hroom hp hgall hbl hgl h5 hs hgp hy htn ho hin
          go_wp2_with fail
          go_at_call 10
          refine (CT.out).mono ?_
          rintro e w3 ⟨rfl, r3, hr3, hO3⟩
          have hrin := HROWI.out
          have hO4 := hO3.comm
          go_wp2_with (at_builtin; refine append_one rfl (.tmp 78) (.tmp 80) 26 rfl 3 (.int .i64 0) 8 Try.underlying26 infoI rfl _ IN.length _ qi _ _ rfl hrin hO4 rfl rfl hm1 hm2 ?_)
          intro v2 q2 w5 hrow2 hO5
          obtain ⟨A2, c2, rfl⟩ := hrow2.slice
          have hO6 := hO5.comm
          have HN := Lib.hid (show OrdR w0 F g seed R m (k + 1) (o + 1) (.slice A2 (IN.length + 1) c2) (.slice Ao OUT.length co) w5 from ⟨IN ++ [(t : Int) + 8 * (k : Int)], OUT, _, G, q2, qo, r3, by rw [List.length_append, List.length_singleton, ints_append]; exact hrow2, HROWO.out, hr3, hO6.back3, ORD2.out, HOK2.out, by omega⟩)
          clear hO3 hO4 hrow2 hO5 hrin
          go_wp2_with fail
          go_at_call 15
          refine (CL.out _ _ _ hr3 hO6).mono ?_
          rintro e w6 ⟨rfl, rfl⟩
          go_wp2_with fail
          go_at_call 14
          refine (CG.out _ _ _ hr3 hO6).mono ?_
          rintro e w6 ⟨rfl, rfl⟩
          go_wp2_with fail
          go_roundw
          case rel => exact ⟨k + 1, o + 1, by omega, by go_num, by go_num, HN⟩
          case measure => simp [intOf]; omega
        · have CT := Lib.hid (st_offer (t : Int) ((t : Int) + 8 * (k : Int)) hp (decide_eq_false hroom) hgall HR.out HO.out.third)
          rw [off_full hroom, offG_full hroom] at CT
          have hs := sumG_updF G p (G p + 1) m hpm
          obtain ⟨bl, hbl⟩ : ∃ n, sumL L m = n := ⟨_, rfl⟩
          obtain ⟨gl, hgl⟩ : ∃ n, sumG (updF G p (G p + 1)) m = n := ⟨_, rfl⟩
          have h5 := HOK.out
          rw [hbl] at h5
          rw [hgl] at hs
          have HOK2 := Lib.hid (show o + 1 = OUT.length + sumL L m + sumG (updF G p (G p + 1)) m by rw [hbl, hgl]; omega)
          have CL := Lib.hid (fun (W : World) (r : Own) (X : Own) (hr : StAt g seed R m L (updF G p (G p + 1)) r) (h : Owned w0 W (r ++ X)) => (hbl ▸ st_Len hr h : Calls Try.prog 15 #[.pointer (some ⟨g, 0, none⟩)] W fun e w' => e = .returned (.int .i64 (bl : Nat)) ∧ W = w'))
          have CG := Lib.hid (fun (W : World) (r : Own) (X : Own) (hr : StAt g seed R m L (updF G p (G p + 1)) r) (h : Owned w0 W (r ++ X)) => (hgl ▸ st_Lost hr h : Calls Try.prog 14 #[.pointer (some ⟨g, 0, none⟩)] W fun e w' => e = .returned (.int .i64 (gl : Nat)) ∧ W = w'))
          have t1 : (((o : Nat) : Int) + 1 != (OUT.length : Int) + (bl : Int) + (gl : Int)) = false := by rw [bne_eq_false_iff_eq]; omega
          have b1 : (o : Int) ≤ 1000000 := by omega
          have b2 : (bl : Int) ≤ 1000 := by omega
          have b3 : (gl : Int) ≤ 1000 := by omega
          have b4 : (OUT.length : Int) ≤ 1000 := by omega
          clear hroom hp hgall hbl hgl h5 hs hgp hy htn ho hin
          go_wp2_with fail
          go_at_call 10
          refine (CT.out).mono ?_
          rintro e w3 ⟨rfl, r3, hr3, hO3⟩
          have HN := Lib.hid (show OrdR w0 F g seed R m (k + 1) (o + 1) (.slice Ai IN.length ci) (.slice Ao OUT.length co) w3 from ⟨IN, OUT, L, _, qi, qo, r3, HROWI.out, HROWO.out, hr3, hO3.back3, ORD.out, HOK2.out, by omega⟩)
          go_wp2_with fail
          go_at_call 15
          refine (CL.out _ _ _ hr3 hO3).mono ?_
          rintro e w6 ⟨rfl, rfl⟩
          go_wp2_with fail
          go_at_call 14
          refine (CG.out _ _ _ hr3 hO3).mono ?_
          rintro e w6 ⟨rfl, rfl⟩
          go_wp2_with fail
          go_roundw
          case rel => exact ⟨k + 1, o + 1, by omega, by go_num, by go_num, HN⟩
          case measure => simp [intOf]; omega
    · obtain rfl : k = N := by omega
      have hdone := hord.done (fun t => plT_lt seed t m1)
      have hcl := catTo_len L m
      have DONE := Lib.hid hdone
      have HO := Lib.hid hO
      have HROWI := Lib.hid hrin
      have hm1' : OUT.length + (catTo L m).length ≤ maxLen := by unfold maxLen; omega
      have hm2' : (OUT.length + (catTo L m).length) * 8 ≤ 140737488355328 := by omega
      have hlen : IN.length = OUT.length + (catTo L m).length := by omega
      have t1 : ((((OUT.length + (catTo L m).length : Nat)) : Int) != (OUT.length : Int) + ((catTo L m).length : Int)) = false := by rw [bne_eq_false_iff_eq]; omega
      have CD := Lib.hid (st_drain hr hO.third)
      have hN2 : IN.length ≤ 200 := by omega
      clear hord ho hok hin hcl hO hdone hr hrin
      go_wp2_with fail
      go_at_call 13
      refine (CD.out).mono ?_
      rintro e w3 ⟨v3, q3, r3, rfl, hrow3, hr3, hO3⟩
      have hO4 : Owned w0 w3 (qo ++ (q3 ++ (r3 ++ (qi ++ F)))) := hO3.fourth
      go_wp2_with (at_builtin; refine append_rows rfl (.tmp 92) (.tmp 94) 26 rfl 3 (.int .i64 0) 1 8 Try.underlying26 infoI rfl (by decide) _ _ OUT.length (catTo L m).length _ _ qo q3 _ rfl rfl hrout hrow3 hO4 (ints_one _) hm1' hm2' ?_)
      intro v4 q4 w4 hrow4 hO5
      obtain ⟨A4, c4, rfl⟩ := hrow4.slice
      rw [← ints_append] at hrow4
      have hO6 : Owned w0 w4 (qi ++ (q4 ++ (r3 ++ F))) := hO5.comm.drop_.third
      obtain ⟨OU, hOU⟩ : ∃ OU, OUT ++ catTo L m = OU := ⟨_, rfl⟩
      have hOl : OU.length = IN.length := by rw [← hOU, List.length_append]; omega
      rw [hOU] at hrow4 DONE
      have e2 : OUT.length + (catTo L m).length = IN.length := by omega
      rw [e2] at hrow4
      have ha : Reads w4 (.slice Ai IN.length ci) IN := reads_of_row HROWI.out (by omega) hO6
      have hb : Reads w4 (.slice A4 IN.length c4) OU := reads_of_row (by rw [hOl]; exact hrow4) (by omega) hO6.comm
      have hFB := hO6.below
      obtain ⟨n, hn⟩ : ∃ n, IN.length = n := ⟨_, rfl⟩
      rw [Reads, hn] at ha
      rw [Reads, hOl, hn] at hb
      rw [hn] at hN2
      obtain ⟨_, _, _, ea, hca⟩ := ha
      obtain ⟨_, _, _, eb, hcb⟩ := hb
      have HCA := Lib.hid (show 0 < n → ∃ b o, Ai = some ⟨b, o, none⟩ ∧ ∀ i, i < n → ∀ W (l' : Own), Owned w4 W l' → W.cell? ⟨b, o + i, none⟩ = some (.int .i64 (IN.getD i 0)) from fun h0 => by
        obtain ⟨b, o, e, h⟩ := hca h0
        cases ea
        exact ⟨b, o, e, fun i hi W l' hW => (hW.below.cell (p := ⟨b, o + i, none⟩) (World.block_lt_of_cell? _ _ (h i hi))).trans (h i hi)⟩)
      have HCB := Lib.hid (show 0 < n → ∃ b o, A4 = some ⟨b, o, none⟩ ∧ ∀ i, i < n → ∀ W (l' : Own), Owned w4 W l' → W.cell? ⟨b, o + i, none⟩ = some (.int .i64 (OU.getD i 0)) from fun h0 => by
        obtain ⟨b, o, e, h⟩ := hcb h0
        cases eb
        exact ⟨b, o, e, fun i hi W l' hW => (hW.below.cell (p := ⟨b, o + i, none⟩) (World.block_lt_of_cell? _ _ (h i hi))).trans (h i hi)⟩)
      have HFB := Lib.hid hFB
      have HL1 := Lib.hid hn
      have HL2 := Lib.hid (hOl.trans hn)
      obtain ⟨X, hX⟩ : ∃ X, Owned w4 w4 X := ⟨[], Owned.nil w4⟩
      have HW4 := Lib.hid hX
      clear hX
      rw [e2, hn]
      clear t1 hlen e2 hn hOl
      clear hO3 hO4 hO5 hO6 hrow3 hr3 hrow4 hrout hca hcb ea eb hOU hFB hm1' hm2' HROWI
      go_wp2_with fail
      go_loopw [18, 19, 20, 21] (fun x18 _ _ _ wr => ∃ t : Nat, t ≤ 8 ∧ x18 = .int .i64 t ∧ Hid (Owned w4 wr X)) (fun x18 _ _ _ _ => 8 - (intOf x18).toNat)
      case atStart => exact ⟨0, by omega, rfl, HW4⟩
      case round =>
        clear HW4
        obtain ⟨t, ht, rfl, hrel⟩ := hrel
        by_cases hlt8 : t < 8
        · have HR0 := Lib.hid (show TwoR w4 X IN OU t 0 (.slice none 0 0) (.slice none 0 0) wr from ⟨[], [], Row.nil _ _, Row.nil _ _, hrel.out⟩)
          have hd8 : decide ((t : Int) < 8) = true := decide_eq_true (by omega)
          clear hrel
          go_wp2_with fail
          go_loopw [19, 20, 21] (fun x19 x20 x21 wr => ∃ i : Nat, i ≤ n ∧ x21 = .int .i64 i ∧ Hid (TwoR w4 X IN OU t i x19 x20 wr)) (fun _ _ x21 _ => n - (intOf x21).toNat)
          case atStart => exact ⟨0, Nat.zero_le _, rfl, HR0⟩
          case round =>
            clear HR0 hd8
            obtain ⟨i, hi, rfl, hrel⟩ := hrel
            obtain ⟨qa, qb, hra, hrb, hO⟩ := hrel.out
            clear hrel
            obtain ⟨Aa, ca, rfl⟩ := hra.slice
            obtain ⟨Ab, cb, rfl⟩ := hrb.slice
            have la := flt_len (t : Int) IN i
            have lb := flt_len (t : Int) OU i
            have ma1 : (flt (t : Int) (IN.take i)).length + 1 ≤ maxLen := by unfold maxLen; omega
            have ma2 : ((flt (t : Int) (IN.take i)).length + 1) * 8 ≤ 140737488355328 := by omega
            have mb1 : (flt (t : Int) (OU.take i)).length + 1 ≤ maxLen := by unfold maxLen; omega
            have mb2 : ((flt (t : Int) (OU.take i)).length + 1) * 8 ≤ 140737488355328 := by omega
            by_cases hin : i < n
            · obtain ⟨ba, oa, rfl, hca⟩ := HCA.out (by omega)
              obtain ⟨bb, ob, rfl, hcb⟩ := HCB.out (by omega)
              have HXA := Lib.hid (fun W l' h => hca i hin W l' h)
              have HXB := Lib.hid (fun W l' h => hcb i hin W l' h)
              have fa := flt_take (t : Int) IN i (by rw [HL1.out]; exact hin)
              have fb := flt_take (t : Int) OU i (by rw [HL2.out]; exact hin)
              clear hca hcb HCA HCB la lb
              generalize IN.getD i 0 = x at *
              generalize OU.getD i 0 = y at *
              by_cases hxa : bits .and .i64 x 7 = (t : Int)
              · rw [if_pos hxa] at fa
                have ta : (bits .and .i64 x 7 == (t : Int)) = true := by rw [hxa]; exact beq_self_eq_true _
                by_cases hxb : bits .and .i64 y 7 = (t : Int)
                · rw [if_pos hxb] at fb
                  have tb : (bits .and .i64 y 7 == (t : Int)) = true := by rw [hxb]; exact beq_self_eq_true _
                  have FA := Lib.hid fa
                  have FB := Lib.hid fb
                  clear fa fb hxa hxb
                  have cx := HXA.out _ _ hO
                  go_wp2_with (at_builtin; refine append_one rfl (.tmp 118) (.tmp 123) 26 rfl 3 (.int .i64 0) 8 Try.underlying26 infoI rfl _ (flt (t : Int) (IN.take i)).length _ qa _ _ rfl hra hO rfl rfl ma1 ma2 ?_)
                  intro va qa2 w5 hra2 hO5
                  obtain ⟨Aa2, ca2, rfl⟩ := hra2.slice
                  have cy := HXB.out _ _ hO5
                  have hO6 := Owned.comm hO5
                  go_wp2_with (at_builtin; refine append_one rfl (.tmp 132) (.tmp 137) 26 rfl 3 (.int .i64 0) 8 Try.underlying26 infoI rfl _ (flt (t : Int) (OU.take i)).length _ qb _ _ rfl hrb hO6 rfl rfl mb1 mb2 ?_)
                  intro vb qb2 w7 hrb2 hO7
                  obtain ⟨Ab2, cb2, rfl⟩ := hrb2.slice
                  have HN := Lib.hid (show TwoR w4 X IN OU t (i + 1) (.slice Aa2 ((flt (t : Int) (IN.take i)).length + 1) ca2) (.slice Ab2 ((flt (t : Int) (OU.take i)).length + 1) cb2) w7 from ⟨qa2, qb2, by rw [FA.out, List.length_append, List.length_singleton, ints_append]; exact hra2, by rw [FB.out, List.length_append, List.length_singleton, ints_append]; exact hrb2, Owned.comm hO7⟩)
                  clear hra hrb hO hra2 hO5 hO6 hrb2 hO7
                  go_wp2_with fail
                  go_roundw
                  case rel => exact ⟨i + 1, by omega, by go_num, HN⟩
                  case measure => simp [intOf]; omega
                · rw [if_neg hxb] at fb
                  have tb : (bits .and .i64 y 7 == (t : Int)) = false := beq_eq_false_iff_ne.2 hxb
                  have FA := Lib.hid fa
                  have FB := Lib.hid fb
                  clear fa fb hxa hxb
                  have cx := HXA.out _ _ hO
                  go_wp2_with (at_builtin; refine append_one rfl (.tmp 118) (.tmp 123) 26 rfl 3 (.int .i64 0) 8 Try.underlying26 infoI rfl _ (flt (t : Int) (IN.take i)).length _ qa _ _ rfl hra hO rfl rfl ma1 ma2 ?_)
                  intro va qa2 w5 hra2 hO5
                  obtain ⟨Aa2, ca2, rfl⟩ := hra2.slice
                  have cy := HXB.out _ _ hO5
                  have HN := Lib.hid (show TwoR w4 X IN OU t (i + 1) (.slice Aa2 ((flt (t : Int) (IN.take i)).length + 1) ca2) (.slice Ab (flt (t : Int) (OU.take i)).length cb) w5 from ⟨qa2, qb, by rw [FA.out, List.length_append, List.length_singleton, ints_append]; exact hra2, by rw [FB.out, List.append_nil]; exact hrb, hO5⟩)
                  clear hra hrb hO hra2 hO5
                  go_wp2_with fail
                  go_roundw
                  case rel => exact ⟨i + 1, by omega, by go_num, HN⟩
                  case measure => simp [intOf]; omega
              · rw [if_neg hxa] at fa
                have ta : (bits .and .i64 x 7 == (t : Int)) = false := beq_eq_false_iff_ne.2 hxa
                by_cases hxb : bits .and .i64 y 7 = (t : Int)
                · rw [if_pos hxb] at fb
                  have tb : (bits .and .i64 y 7 == (t : Int)) = true := by rw [hxb]; exact beq_self_eq_true _
                  have FA := Lib.hid fa
                  have FB := Lib.hid fb
                  clear fa fb hxa hxb
                  have cx := HXA.out _ _ hO
                  have cy := HXB.out _ _ hO
                  have hO6 := Owned.comm hO
                  go_wp2_with (at_builtin; refine append_one rfl (.tmp 132) (.tmp 137) 26 rfl 3 (.int .i64 0) 8 Try.underlying26 infoI rfl _ (flt (t : Int) (OU.take i)).length _ qb _ _ rfl hrb hO6 rfl rfl mb1 mb2 ?_)
                  intro vb qb2 w7 hrb2 hO7
                  obtain ⟨Ab2, cb2, rfl⟩ := hrb2.slice
                  have HN := Lib.hid (show TwoR w4 X IN OU t (i + 1) (.slice Aa (flt (t : Int) (IN.take i)).length ca) (.slice Ab2 ((flt (t : Int) (OU.take i)).length + 1) cb2) w7 from ⟨qa, qb2, by rw [FA.out, List.append_nil]; exact hra, by rw [FB.out, List.length_append, List.length_singleton, ints_append]; exact hrb2, Owned.comm hO7⟩)
                  clear hra hrb hO hO6 hrb2 hO7
                  go_wp2_with fail
                  go_roundw
                  case rel => exact ⟨i + 1, by omega, by go_num, HN⟩
                  case measure => simp [intOf]; omega
                · rw [if_neg hxb] at fb
                  have tb : (bits .and .i64 y 7 == (t : Int)) = false := beq_eq_false_iff_ne.2 hxb
                  have FA := Lib.hid fa
                  have FB := Lib.hid fb
                  clear fa fb hxa hxb
                  have cx := HXA.out _ _ hO
                  have cy := HXB.out _ _ hO
                  have HN := Lib.hid (show TwoR w4 X IN OU t (i + 1) (.slice Aa (flt (t : Int) (IN.take i)).length ca) (.slice Ab (flt (t : Int) (OU.take i)).length cb) wr from ⟨qa, qb, by rw [FA.out, List.append_nil]; exact hra, by rw [FB.out, List.append_nil]; exact hrb, hO⟩)
                  clear hra hrb hO
                  go_wp2_with fail
                  go_roundw
                  case rel => exact ⟨i + 1, by omega, by go_num, HN⟩
                  case measure => simp [intOf]; omega
            · obtain rfl : i = n := by omega
              have ea : IN.take i = IN := List.take_of_length_le (by rw [HL1.out]; omega)
              have eb : OU.take i = OU := List.take_of_length_le (by rw [HL2.out]; omega)
              rw [ea] at hra la ma1 ma2 ⊢
              rw [eb] at hrb lb mb1 mb2 ⊢
              have hda := reads_of_row hra (by omega) hO
              have hdb := reads_of_row hrb (by omega) hO.comm
              rw [DONE.out] at hdb
              have hlb : (flt (t : Int) OU).length = (flt (t : Int) IN).length := by rw [DONE.out]
              rw [hlb]
              have CI := Lib.hid (ints_b hda hdb)
              have HB := Lib.hid hO
              clear hra hrb hda hdb hO ea eb la lb ma1 ma2 mb1 mb2 hlb
              go_wp2_with fail
              go_at_call 12
              refine (CI.out).mono ?_
              rintro e w5 ⟨rfl, hb5⟩
              have HN := Lib.hid (Owned.drop_ (Owned.drop_ (HB.out.under hb5)))
              clear hb5
              go_wp2_with fail
              go_roundw
              case rel => exact ⟨t + 1, by omega, by go_num, HN⟩
              case measure => simp [intOf]; omega
        · obtain rfl : t = 8 := by omega
          go_wp2_with fail
          go_ret
          exact ⟨rfl, HFB.out.trans (hrel.out.below.mono HFB.out.size)⟩
end Go.Proofs.Ytjhoipbffadcjaa
