/- A row of hits and misses, played: the contract of the document's. -/
import Derived.Test.YtndmbajdafecoaaClimbPlay
import Derived.Test.YtndmbajdafecoaaClimbRef
namespace Go.Proofs.Ytndmbajdafecoaa
open Go.RowKit Go.Sep
def PlayRel2 (w0 : World) (g g' : Nat) (x : PS) (w : World) : Prop :=
  Owned w0 w [(g, .cells x.cl 23 (0, 0)), (g', .cells x.qu 34 (0, 0)), (w0.heap.size, .cells (climbC 0 0 0 0) 23 (0, 0)), (w0.heap.size + 1, .cells (quotaC 0 0 0) 34 (0, 0))]
set_option maxHeartbeats 3200000 in
theorem rplay_calls (cap per : Int) (v : Value) (l : List Bool) (w0 : World) (hv : ReadsB w0 v l) :
    Calls Try.prog 20 #[.int .i64 cap, .int .i64 per, v] w0 fun e w' => e = .returned (.tuple #[.agg (playP cap per l).cl, .agg (playP cap per l).qu]) ∧ Below w0.heap.size w0 w' := by
  obtain ⟨hlen, A, cp, rfl, _, _, hc⟩ := hv
  have c1 := rnew_calls cap
  have c2 := rof_calls cap
  have hplay : playP cap per (l.take l.length) = playP cap per l := by rw [List.take_length]
  have hsn := playP_snoc cap per l
  have hrd : ∀ k, k < l.length → ∃ b o, A = some ⟨b, o, none⟩ ∧ w0.cell? ⟨b, o + k, none⟩ = some (.bool (l.getD k false)) := fun k hk => by
    obtain ⟨b, o, hA, hcell⟩ := hc (by omega)
    exact ⟨b, o, hA, hcell k hk⟩
  have HR := Lib.hid hrd
  have HSN := Lib.hid hsn
  have HPL := Lib.hid hplay
  clear hc hrd hsn hplay
  generalize hN : l.length = N at *
  clear hN
  have hO := ((Owned.nil w0).alloc (.cells (climbC 0 0 0 0) 23)).alloc (.cells (quotaC 0 0 0) 34)
  rw [show (w0.alloc (.cells (climbC 0 0 0 0) 23)).heap.size = w0.heap.size + 1 by simp] at hO
  have HO := Lib.hid hO.swap
  clear hO
  unfold climbC quotaC at HO
  go_enter Try.func20, Try.ntmps20
  go_wp2_with fail
  go_at_call 18
  refine (c1 _).mono ?_
  rintro e w1 ⟨rfl, hb1⟩
  have hO1 := (HO.out.under hb1).alloc (.cells (climbC 0 0 0 0) 23)
  have HO1 := Lib.hid hO1
  clear hO1 HO
  unfold climbC at HO1
  go_upto_region 2 with (refine store_whole rfl _ _ _ rfl w1.heap.size rfl HO1.out (climbC 0 0 0 (firstN cap)) rfl rfl info_climb (climb_one _ _ _ _) ?_; intro w3 hO3; have HO3 := Lib.hid hO3; clear hO3 HO1)
  go_wp2_with fail
  go_at_call 30
  refine (c2 _).mono ?_
  rintro e w2 ⟨rfl, hb2⟩
  have hO2 := (HO3.out.under hb2).alloc (.cells (quotaC 0 0 0) 34)
  have HO2 := Lib.hid hO2
  clear hO2 HO3 hb1 hb2 c1 c2
  unfold quotaC at HO2
  go_wp2_with (refine store_whole rfl _ _ _ rfl w2.heap.size rfl HO2.out (quotaC _ _ _) rfl rfl info_quota (quota_one _ _ _) ?_; intro w4 hO4; have HO4 : Hid (PlayRel2 w0 w1.heap.size w2.heap.size (playP cap per (l.take 0)) w4) := Lib.hid hO4.swap; clear hO4 HO2)
  go_loopw [10] (fun x10 wr => ∃ k : Nat, k ≤ N ∧ x10 = .int .i64 k ∧ Hid (PlayRel2 w0 w1.heap.size w2.heap.size (playP cap per (l.take k)) wr)) (fun x10 _ => N - (intOf x10).toNat)
  case atStart => exact ⟨0, by omega, rfl, HO4⟩
  case round =>
    obtain ⟨k, hk, rfl, HO⟩ := hrel
    clear HO4
    by_cases hlt : k < N
    · have hst := HSN.out k hlt
      obtain ⟨b, o, rfl, hcell⟩ := HR.out k hlt
      have hbl := World.block_lt_of_cell? _ _ hcell
      have hO := HO.out
      unfold PlayRel2 at hO
      have cx : wr.cell? ⟨b, o + k, none⟩ = some (.bool (l.getD k false)) := (hO.below.cell (p := ⟨b, o + k, none⟩) hbl).trans hcell
      generalize playP cap per (l.take k) = x at *
      generalize l.getD k false = hit at *
      obtain ⟨h, m, l', s, c, w', p⟩ := x
      have hO : Owned w0 wr [(w1.heap.size, .cells (climbC h m l' s) 23 (0, 0)), (w2.heap.size, .cells (quotaC c w' p) 34 (0, 0)), (w0.heap.size, .cells (climbC 0 0 0 0) 23 (0, 0)), (w0.heap.size + 1, .cells (quotaC 0 0 0) 34 (0, 0))] := hO
      clear HO
      have HO := Lib.hid hO
      clear hO hcell HR HSN HPL
      have c3 : ∀ w, Calls Try.prog 12 #[.agg #[.int .i64 h, .int .i64 m, .int .i64 l', .int .i64 s], .bool hit] w fun e w' => e = .returned (.agg #[.int .i64 (cH h hit), .int .i64 (cM m hit), .int .i64 (fitL l'), .int .i64 (fitS s)]) ∧ Below w.heap.size w w' := rcount_calls h m l' s hit
      have c4 := rdue_calls (cH h hit) (cM m hit) (fitL l') (fitS s) per
      have c5 := rturn_calls (cH h hit) (cM m hit) (fitL l') (fitS s) cap
      have c6 := fun w => rshift_calls c w' p (farN (cH h hit) (cM m hit) (fitL l') (fitS s)) w
      simp only [shQ] at c6
      have hstep : stepP cap per ⟨h, m, l', s, c, w', p⟩ hit = if dueB (cH h hit) (cM m hit) per = true then { h := 0, m := 0, l := rateN (cH h hit) (cM m hit), s := stepN (cH h hit) (cM m hit) (fitL l') (fitS s) cap, c := ofC c, w := shW c w' (farN (cH h hit) (cM m hit) (fitL l') (fitS s)), p := pr (ofC c) (shW c w' (farN (cH h hit) (cM m hit) (fitL l') (fitS s))) } else { h := cH h hit, m := cM m hit, l := fitL l', s := fitS s, c := c, w := w', p := p } := rfl
      rw [hstep] at hst
      have HST := Lib.hid hst
      clear hstep hst
      generalize pr (ofC c) (shW c w' (farN (cH h hit) (cM m hit) (fitL l') (fitS s))) = np at *
      generalize shW c w' (farN (cH h hit) (cM m hit) (fitL l') (fitS s)) = nw at *
      generalize ofC c = nc at *
      generalize stepN (cH h hit) (cM m hit) (fitL l') (fitS s) cap = ns at *
      generalize farN (cH h hit) (cM m hit) (fitL l') (fitS s) = far at *
      generalize rateN (cH h hit) (cM m hit) = nr at *
      generalize dueB (cH h hit) (cM m hit) per = du at *
      generalize cH h hit = h1 at *
      generalize cM m hit = m1 at *
      generalize fitL l' = l1 at *
      generalize fitS s = s1 at *
      cases du with
      | false =>
        have hst := HST.out
        rw [if_neg (by simp)] at hst
        clear HST
        have HST := Lib.hid hst
        clear hst c5 c6
        obtain ⟨t0, t1, t2, t3, _, _, _, _⟩ := climb_facts HO.out
        go_wp2_with fail
        go_region_with ((go_at_call 12; (with_reducible refine (c3 _).mono ?_); rintro e w5 ⟨rfl, hb5⟩; have HO5 := Lib.hid (HO.out.drew.under hb5); obtain ⟨g0, g1, g2, g3, k0, k1, k2, k3⟩ := climb_facts HO5.out))
        all_goals
          have HO6 := Lib.hid (set4 (a' := h1) (b' := m1) (c' := l1) (d' := s1) HO5.out)
          clear cx t0 t1 t2 t3 HO HO5 g0 g1 g2 g3 k0 k1 k2 k3
          go_wp2_with (first
            | (refine load_whole rfl _ _ rfl w1.heap.size rfl HO6.out _ und_climb rfl info_climb ?_)
            | (go_at_call 14; refine (c4 _).mono ?_; rintro e w7 ⟨rfl, hb7⟩; have HO7 := Lib.hid (HO6.out.under hb7); clear HO6))
          go_roundw
          case rel => exact ⟨k + 1, by omega, by go_num, Lib.hid (by rw [HST.out]; exact HO7.out)⟩
          case measure => simp [intOf]; omega
      | true =>
        have hst := HST.out
        rw [if_pos rfl] at hst
        clear HST
        have HST := Lib.hid hst
        clear hst
        obtain ⟨t0, t1, t2, t3, _, _, _, _⟩ := climb_facts HO.out
        go_wp2_with fail
        go_region_with ((go_at_call 12; (with_reducible refine (c3 _).mono ?_); rintro e w5 ⟨rfl, hb5⟩; have HO5 := Lib.hid (HO.out.drew.under hb5); obtain ⟨g0, g1, g2, g3, k0, k1, k2, k3⟩ := climb_facts HO5.out))
        all_goals
          have HO6 := Lib.hid (set4 (a' := h1) (b' := m1) (c' := l1) (d' := s1) HO5.out)
          clear cx t0 t1 t2 t3 HO HO5 g0 g1 g2 g3 k0 k1 k2 k3
          go_wp2_with (first
            | (refine load_whole rfl _ _ rfl w1.heap.size rfl HO6.out _ und_climb rfl info_climb ?_)
            | (go_at_call 14; refine (c4 _).mono ?_; rintro e w7 ⟨rfl, hb7⟩; have HO7 := Lib.hid (HO6.out.under hb7); clear HO6)
            | (refine load_whole rfl _ _ rfl w1.heap.size rfl HO7.out _ und_climb rfl info_climb ?_)
            | (go_at_call 10; refine (c5 _).mono ?_; rintro e w8 ⟨rfl, hb8⟩; have HO8 := Lib.hid ((HO7.out.under hb8).alloc (.cells #[.int .i64 0, .int .i64 0, .int .i64 0, .int .i64 0] 23)); clear HO7)
            | (refine store_whole rfl _ _ _ rfl w8.heap.size rfl HO8.out (climbC 0 0 nr ns) rfl rfl info_climb (climb_one _ _ _ _) ?_; intro w9 hO9; have HO9 := Lib.hid hO9; clear hO9 HO8)
            | (refine load_whole rfl _ _ rfl w8.heap.size rfl HO9.out _ und_climb rfl info_climb ?_)
            | (refine store_whole rfl _ _ _ rfl w1.heap.size rfl HO9.out.swap (climbC 0 0 nr ns) rfl rfl info_climb (climb_one _ _ _ _) ?_; intro w10 hO10; have HO10 := Lib.hid hO10.swap.tail.swap; clear hO10 HO9)
            | (refine load_whole rfl _ _ rfl w2.heap.size rfl HO10.out _ und_quota rfl info_quota ?_)
            | (go_at_call 31; refine (c6 _).mono ?_; rintro e w11 ⟨rfl, hb11⟩; have HO11 := Lib.hid (HO10.out.under hb11); clear HO10)
            | (refine store_whole rfl _ _ _ rfl w2.heap.size rfl HO11.out (quotaC nc nw np) rfl rfl info_quota (quota_one _ _ _) ?_; intro w12 hO12; have HO12 := Lib.hid hO12.swap; clear hO12 HO11))
          go_roundw
          case rel => exact ⟨k + 1, by omega, by go_num, Lib.hid (by rw [HST.out]; exact HO12.out)⟩
          case measure => simp [intOf]; omega
    · obtain rfl : k = N := by omega
      have hO := HO.out
      rw [HPL.out] at hO
      unfold PlayRel2 at hO
      obtain ⟨x, hx⟩ : ∃ x, playP cap per l = x := ⟨_, rfl⟩
      rw [hx] at hO
      have HX := Lib.hid hx
      clear HO HSN HR HPL hx
      obtain ⟨h, m, l', s, c, w', p⟩ := x
      have hO : Owned w0 wr [(w1.heap.size, .cells (climbC h m l' s) 23 (0, 0)), (w2.heap.size, .cells (quotaC c w' p) 34 (0, 0)), (w0.heap.size, .cells (climbC 0 0 0 0) 23 (0, 0)), (w0.heap.size + 1, .cells (quotaC 0 0 0) 34 (0, 0))] := hO
      have h4 : Owned w0 wr [(w0.heap.size, .cells (climbC 0 0 0 0) 23 (0, 0)), (w0.heap.size + 1, .cells (quotaC 0 0 0) 34 (0, 0)), (w1.heap.size, .cells (climbC h m l' s) 23 (0, 0)), (w2.heap.size, .cells (quotaC c w' p) 34 (0, 0))] := Owned.comm (a := [_, _]) (b := [_, _]) (l := []) hO
      obtain ⟨t0, t1, t2, t3, _, _, _, _⟩ := climb_facts hO
      obtain ⟨q0, q1, q2, _, _, _⟩ := quota_facts hO.swap
      obtain ⟨g0, g1, g2, g3, k0, k1, k2, k3⟩ := climb_facts h4
      obtain ⟨v0, v1, v2, e0, e1, e2⟩ := quota_facts h4.swap
      have HO := Lib.hid (set3 (a' := c) (b' := w') (c' := p) (set4 (a' := h) (b' := m) (c' := l') (d' := s) h4).swap).drew
      have hn := h4.nodup
      simp only [List.map_cons, List.map_nil, List.nodup_cons, List.mem_cons, not_or] at hn
      obtain ⟨⟨n1, n2, n3, _⟩, ⟨n4, n5, _⟩, _⟩ := hn
      clear hO h4
      go_wp2_with fail
      go_region_with (fail)
      all_goals
        go_wp2_with fail
        exact bodyPost_ret (results_cell_cell rfl _ _ w0.heap.size (w0.heap.size + 1) _ _ (climbC h m l' s) (quotaC c w' p) _ _ _ _ rfl HO.out.swap.head und_climb rfl info_climb rfl HO.out.head und_quota rfl info_quota) rfl ⟨by rw [HX.out]; rfl, HO.out.below⟩
end Go.Proofs.Ytndmbajdafecoaa
