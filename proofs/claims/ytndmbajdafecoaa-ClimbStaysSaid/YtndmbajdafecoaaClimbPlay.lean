/- A row of hits and misses, played: the contract. -/
import Derived.Test.YtndmbajdafecoaaClimb2
import Derived.Deep.RegionWith
namespace Go.Proofs.Ytndmbajdafecoaa
open Go.RowKit Go.Sep
/-- A slice that reads as these bools. -/
def ReadsB (w : World) (v : Value) (l : List Bool) : Prop :=
  l.length ≤ 9223372036854775807 ∧ ∃ A c, v = .slice A l.length c ∧ l.length ≤ c ∧ (A = none → c = 0) ∧ (0 < l.length → ∃ b o, A = some ⟨b, o, none⟩ ∧ ∀ i, i < l.length → w.cell? ⟨b, o + i, none⟩ = some (.bool (l.getD i false)))
theorem ReadsB.below {w w' : World} {v : Value} {l : List Bool} (h : ReadsB w v l) (hb : Below w.heap.size w w') : ReadsB w' v l := by
  obtain ⟨h1, A, c, rfl, hcap, hnil, h2⟩ := h
  refine ⟨h1, A, c, rfl, hcap, hnil, fun hp => ?_⟩
  obtain ⟨b, o, rfl, h3⟩ := h2 hp
  refine ⟨b, o, rfl, fun i hi => ?_⟩
  have h4 := h3 i hi
  rw [hb.cell (World.block_lt_of_cell? w _ h4)]
  exact h4
/-- a climb and a quota -/
structure PS where
  h : Int
  m : Int
  l : Int
  s : Int
  c : Int
  w : Int
  p : Int
def cH (h : Int) (hit : Bool) : Int := if hit = true then fitN (fitN h + 1) else fitN h
def cM (m : Int) (hit : Bool) : Int := if hit = true then fitN m else fitN (fitN m + 1)
def PS.counted (x : PS) (hit : Bool) : PS := { x with h := cH x.h hit, m := cM x.m hit, l := fitL x.l, s := fitS x.s }
def PS.turned (x : PS) (cap : Int) : PS :=
  { h := 0, m := 0, l := rateN x.h x.m, s := stepN x.h x.m x.l x.s cap, c := ofC x.c, w := shW x.c x.w (farN x.h x.m x.l x.s), p := pr (ofC x.c) (shW x.c x.w (farN x.h x.m x.l x.s)) }
def stepP (cap per : Int) (x : PS) (hit : Bool) : PS := if dueB (x.counted hit).h (x.counted hit).m per = true then (x.counted hit).turned cap else x.counted hit
def initP (cap : Int) : PS := { h := 0, m := 0, l := 0, s := firstN cap, c := ofC cap, w := ofW cap, p := pr (ofC cap) (ofW cap) }
def playP (cap per : Int) (l : List Bool) : PS := l.foldl (stepP cap per) (initP cap)
theorem playP_snoc (cap per : Int) (l : List Bool) (k : Nat) (hk : k < l.length) : playP cap per (l.take (k + 1)) = stepP cap per (playP cap per (l.take k)) (l.getD k false) := by
  unfold playP
  rw [List.take_succ_eq_append_getElem hk, List.foldl_append]
  simp [List.getD, hk]
def PS.cl (x : PS) : Array Value := climbC x.h x.m x.l x.s
def PS.qu (x : PS) : Array Value := quotaC x.c x.w x.p
def PlayRel (w0 : World) (g : Nat) (x : PS) (w : World) : Prop :=
  Owned w0 w [(g, .cells x.cl 23 (0, 0)), (g + 1, .cells x.qu 34 (0, 0)), (w0.heap.size, .cells (climbC 0 0 0 0) 23 (0, 0)), (w0.heap.size + 1, .cells (quotaC 0 0 0) 34 (0, 0))]
theorem set4 {w0 w : World} {g : Nat} {a b c d a' b' c' d' : Int} {t : TypeId} {l : Own} (h : Owned w0 w ((g, .cells (climbC a b c d) t (0, 0)) :: l)) :
    Owned w0 ((((w.setCell ⟨g, 0, none⟩ (.int .i64 a')).setCell ⟨g, 1, none⟩ (.int .i64 b')).setCell ⟨g, 2, none⟩ (.int .i64 c')).setCell ⟨g, 3, none⟩ (.int .i64 d')) ((g, .cells (climbC a' b' c' d') t (0, 0)) :: l) :=
  (((h.set 0 (.int .i64 a')).set 1 (.int .i64 b')).set 2 (.int .i64 c')).set 3 (.int .i64 d')
theorem set3 {w0 w : World} {g : Nat} {a b c a' b' c' : Int} {t : TypeId} {l : Own} (h : Owned w0 w ((g, .cells (quotaC a b c) t (0, 0)) :: l)) :
    Owned w0 (((w.setCell ⟨g, 0, none⟩ (.int .i64 a')).setCell ⟨g, 1, none⟩ (.int .i64 b')).setCell ⟨g, 2, none⟩ (.int .i64 c')) ((g, .cells (quotaC a' b' c') t (0, 0)) :: l) :=
  ((h.set 0 (.int .i64 a')).set 1 (.int .i64 b')).set 2 (.int .i64 c')
theorem climb_facts {w0 w : World} {g : Nat} {a b c d : Int} {t : TypeId} {l : Own} (h : Owned w0 w ((g, .cells (climbC a b c d) t (0, 0)) :: l)) :
    w.cell? ⟨g, 0, none⟩ = some (.int .i64 a) ∧ w.cell? ⟨g, 1, none⟩ = some (.int .i64 b) ∧ w.cell? ⟨g, 2, none⟩ = some (.int .i64 c) ∧ w.cell? ⟨g, 3, none⟩ = some (.int .i64 d) ∧
    w.frozen? ⟨g, 0, none⟩ = false ∧ w.frozen? ⟨g, 1, none⟩ = false ∧ w.frozen? ⟨g, 2, none⟩ = false ∧ w.frozen? ⟨g, 3, none⟩ = false :=
  ⟨h.cell 0, h.cell 1, h.cell 2, h.cell 3, h.frozen 0, h.frozen 1, h.frozen 2, h.frozen 3⟩
theorem quota_facts {w0 w : World} {g : Nat} {a b c : Int} {t : TypeId} {l : Own} (h : Owned w0 w ((g, .cells (quotaC a b c) t (0, 0)) :: l)) :
    w.cell? ⟨g, 0, none⟩ = some (.int .i64 a) ∧ w.cell? ⟨g, 1, none⟩ = some (.int .i64 b) ∧ w.cell? ⟨g, 2, none⟩ = some (.int .i64 c) ∧
    w.frozen? ⟨g, 0, none⟩ = false ∧ w.frozen? ⟨g, 1, none⟩ = false ∧ w.frozen? ⟨g, 2, none⟩ = false :=
  ⟨h.cell 0, h.cell 1, h.cell 2, h.frozen 0, h.frozen 1, h.frozen 2⟩
set_option maxHeartbeats 3200000 in
theorem play_calls (cap per : Int) (v : Value) (l : List Bool) (w0 : World) (hv : ReadsB w0 v l) :
    Calls Try.prog 19 #[.int .i64 cap, .int .i64 per, v] w0 fun e w' => e = .returned (.tuple #[.agg (playP cap per l).cl, .agg (playP cap per l).qu]) ∧ Below w0.heap.size w0 w' := by
  obtain ⟨hlen, A, cp, rfl, _, _, hc⟩ := hv
  have c1 := new_calls cap
  have c2 := of_calls cap
  have hplay : playP cap per (l.take l.length) = playP cap per l := by rw [List.take_length]
  have hsn := playP_snoc cap per l
  have hrd : ∀ k, k < l.length → ∃ b o, A = some ⟨b, o, none⟩ ∧ w0.cell? ⟨b, o + k, none⟩ = some (.bool (l.getD k false)) := fun k hk => by
    obtain ⟨b, o, hA, hcell⟩ := hc (by omega)
    exact ⟨b, o, hA, hcell k hk⟩
  have HR := Lib.hid hrd
  have HSN := Lib.hid hsn
  have HPL := Lib.hid hplay
  clear hc hrd hsn hplay
  generalize hN : l.length = N at *
  clear hN
  have hO := ((Owned.nil w0).alloc (.cells (climbC 0 0 0 0) 23)).alloc (.cells (quotaC 0 0 0) 34)
  rw [show (w0.alloc (.cells (climbC 0 0 0 0) 23)).heap.size = w0.heap.size + 1 by simp] at hO
  have HO := Lib.hid hO.swap
  clear hO
  unfold climbC quotaC at HO
  go_enter Try.func19, Try.ntmps19
  go_wp2_with fail
  go_at_call 17
  refine (c1 _).mono ?_
  rintro e w1 ⟨rfl, hb1⟩
  have HO1 := Lib.hid (HO.out.under hb1)
  go_wp2_with fail
  go_at_call 28
  refine (c2 _).mono ?_
  rintro e w2 ⟨rfl, hb2⟩
  have hO2 := ((HO1.out.under hb2).alloc (.cells (climbC 0 0 0 0) 23)).alloc (.cells (quotaC 0 0 0) 34)
  rw [show (w2.alloc (.cells (climbC 0 0 0 0) 23)).heap.size = w2.heap.size + 1 by simp] at hO2
  have HO2 := Lib.hid hO2.swap
  clear hO2 HO HO1 hb1 hb2 c1 c2
  unfold climbC quotaC at HO2
  go_wp2_with (first
    | (refine store_whole rfl _ _ _ rfl w2.heap.size rfl HO2.out (climbC 0 0 0 (firstN cap)) rfl rfl info_climb (climb_one _ _ _ _) ?_; intro w3 hO3; have HO3 := Lib.hid hO3.swap; clear hO3 HO2)
    | (refine store_whole rfl _ _ _ rfl (w2.heap.size + 1) rfl HO3.out (quotaC _ _ _) rfl rfl info_quota (quota_one _ _ _) ?_; intro w4 hO4; have HO4 : Hid (PlayRel w0 w2.heap.size (playP cap per (l.take 0)) w4) := Lib.hid hO4.swap; clear hO4 HO3))
  go_loopw [20] (fun x20 wr => ∃ k : Nat, k ≤ N ∧ x20 = .int .i64 k ∧ Hid (PlayRel w0 w2.heap.size (playP cap per (l.take k)) wr)) (fun x20 _ => N - (intOf x20).toNat)
  case atStart => exact ⟨0, by omega, rfl, HO4⟩
  case round =>
    obtain ⟨k, hk, rfl, HO⟩ := hrel
    clear HO4
    by_cases hlt : k < N
    · have hst := HSN.out k hlt
      obtain ⟨b, o, rfl, hcell⟩ := HR.out k hlt
      have hbl := World.block_lt_of_cell? _ _ hcell
      have hO := HO.out
      unfold PlayRel at hO
      have cx : wr.cell? ⟨b, o + k, none⟩ = some (.bool (l.getD k false)) := (hO.below.cell (p := ⟨b, o + k, none⟩) hbl).trans hcell
      generalize playP cap per (l.take k) = x at *
      generalize l.getD k false = hit at *
      obtain ⟨h, m, l', s, c, w', p⟩ := x
      have hO : Owned w0 wr [(w2.heap.size, .cells (climbC h m l' s) 23 (0, 0)), (w2.heap.size + 1, .cells (quotaC c w' p) 34 (0, 0)), (w0.heap.size, .cells (climbC 0 0 0 0) 23 (0, 0)), (w0.heap.size + 1, .cells (quotaC 0 0 0) 34 (0, 0))] := hO
      clear HO
      have HO := Lib.hid hO
      clear hO hcell HR HSN HPL
      have c3 : TellsB 11 #[.agg (climbC h m l' s), .bool hit] (.agg (climbC (cH h hit) (cM m hit) (fitL l') (fitS s))) := count_calls h m l' s hit
      have c4 := due_calls (cH h hit) (cM m hit) (fitL l') (fitS s) per
      have c5 := turn_calls (cH h hit) (cM m hit) (fitL l') (fitS s) cap
      have c6 := fun w => shift_calls c w' p (farN (cH h hit) (cM m hit) (fitL l') (fitS s)) w
      simp only [shQ, quotaC] at c6
      have hstep : stepP cap per ⟨h, m, l', s, c, w', p⟩ hit = if dueB (cH h hit) (cM m hit) per = true then { h := 0, m := 0, l := rateN (cH h hit) (cM m hit), s := stepN (cH h hit) (cM m hit) (fitL l') (fitS s) cap, c := ofC c, w := shW c w' (farN (cH h hit) (cM m hit) (fitL l') (fitS s)), p := pr (ofC c) (shW c w' (farN (cH h hit) (cM m hit) (fitL l') (fitS s))) } else { h := cH h hit, m := cM m hit, l := fitL l', s := fitS s, c := c, w := w', p := p } := rfl
      rw [hstep] at hst
      have HST := Lib.hid hst
      clear hstep hst
      generalize pr (ofC c) (shW c w' (farN (cH h hit) (cM m hit) (fitL l') (fitS s))) = np at *
      generalize shW c w' (farN (cH h hit) (cM m hit) (fitL l') (fitS s)) = nw at *
      generalize ofC c = nc at *
      generalize stepN (cH h hit) (cM m hit) (fitL l') (fitS s) cap = ns at *
      generalize farN (cH h hit) (cM m hit) (fitL l') (fitS s) = far at *
      generalize rateN (cH h hit) (cM m hit) = nr at *
      generalize dueB (cH h hit) (cM m hit) per = du at *
      generalize cH h hit = h1 at *
      generalize cM m hit = m1 at *
      generalize fitL l' = l1 at *
      generalize fitS s = s1 at *
      cases du with
      | false =>
        have hst := HST.out
        rw [if_neg (by simp)] at hst
        clear HST
        have HST := Lib.hid hst
        clear hst c5 c6
        go_wp2_with (first
          | (refine load_whole rfl _ _ rfl w2.heap.size rfl HO.out _ und_climb rfl info_climb ?_)
          | (go_at_call 11; refine (c3 _).mono ?_; rintro e w5 ⟨rfl, hb5⟩; have HO5 := Lib.hid (HO.out.under hb5); clear HO cx)
          | (refine store_whole rfl _ _ _ rfl w2.heap.size rfl HO5.out (climbC h1 m1 l1 s1) rfl rfl info_climb (climb_one _ _ _ _) ?_; intro w6 hO6; have HO6 := Lib.hid hO6; clear hO6 HO5)
          | (refine load_whole rfl _ _ rfl w2.heap.size rfl HO6.out _ und_climb rfl info_climb ?_)
          | (go_at_call 13; refine (c4 _).mono ?_; rintro e w7 ⟨rfl, hb7⟩; have HO7 := Lib.hid (HO6.out.under hb7); clear HO6))
        go_roundw
        case rel => exact ⟨k + 1, by omega, by go_num, Lib.hid (by rw [HST.out]; exact HO7.out)⟩
        case measure => simp [intOf]; omega
      | true =>
        have hst := HST.out
        rw [if_pos rfl] at hst
        clear HST
        have HST := Lib.hid hst
        clear hst
        go_wp2_with (first
          | (refine load_whole rfl _ _ rfl w2.heap.size rfl HO.out _ und_climb rfl info_climb ?_)
          | (go_at_call 11; refine (c3 _).mono ?_; rintro e w5 ⟨rfl, hb5⟩; have HO5 := Lib.hid (HO.out.under hb5); clear HO cx)
          | (refine store_whole rfl _ _ _ rfl w2.heap.size rfl HO5.out (climbC h1 m1 l1 s1) rfl rfl info_climb (climb_one _ _ _ _) ?_; intro w6 hO6; have HO6 := Lib.hid hO6; clear hO6 HO5)
          | (refine load_whole rfl _ _ rfl w2.heap.size rfl HO6.out _ und_climb rfl info_climb ?_)
          | (go_at_call 13; refine (c4 _).mono ?_; rintro e w7 ⟨rfl, hb7⟩; have HO7 := Lib.hid (HO6.out.under hb7); clear HO6)
          | (refine load_whole rfl _ _ rfl w2.heap.size rfl HO7.out _ und_climb rfl info_climb ?_)
          | (go_at_call 9; refine (c5 _).mono ?_; rintro e w8 ⟨rfl, hb8⟩; have HO8 := Lib.hid ((HO7.out.under hb8).alloc (.cells #[.int .i64 0, .int .i64 0, .int .i64 0, .int .i64 0] 23)); clear HO7)
          | (refine store_whole rfl _ _ _ rfl w8.heap.size rfl HO8.out (climbC 0 0 nr ns) rfl rfl info_climb (climb_one _ _ _ _) ?_; intro w9 hO9; have HO9 := Lib.hid hO9; clear hO9 HO8))
        obtain ⟨t0, t1, t2, t3, _, _, _, _⟩ := climb_facts HO9.out
        obtain ⟨q0, q1, q2, _, _, _⟩ := quota_facts HO9.out.swap2
        clear hb5 hb7 hb8 c3 c4 c5
        go_region_with ((go_at_call 29; (with_reducible refine (c6 _).mono ?_); rintro e w10 ⟨rfl, hb10⟩; have HO10 := Lib.hid (HO9.out.drew.under hb10); obtain ⟨u0, u1, u2, u3, _, _, _, _⟩ := climb_facts HO10.out; obtain ⟨g0, g1, g2, g3, k0, k1, k2, k3⟩ := climb_facts HO10.out.swap; obtain ⟨v0, v1, v2, e0, e1, e2⟩ := quota_facts HO10.out.swap2))
        all_goals
          go_wp2_with fail
          go_roundw
          case rel => exact ⟨k + 1, by omega, by go_num, Lib.hid (by rw [HST.out]; exact (set3 (set4 HO10.out.tail).swap).swap)⟩
          case measure => simp [intOf]; omega
    · obtain rfl : k = N := by omega
      have hO := HO.out
      rw [HPL.out] at hO
      unfold PlayRel at hO
      obtain ⟨x, hx⟩ : ∃ x, playP cap per l = x := ⟨_, rfl⟩
      rw [hx] at hO
      have HX := Lib.hid hx
      clear HO HSN HR HPL hx
      obtain ⟨h, m, l', s, c, w', p⟩ := x
      have hO : Owned w0 wr [(w2.heap.size, .cells (climbC h m l' s) 23 (0, 0)), (w2.heap.size + 1, .cells (quotaC c w' p) 34 (0, 0)), (w0.heap.size, .cells (climbC 0 0 0 0) 23 (0, 0)), (w0.heap.size + 1, .cells (quotaC 0 0 0) 34 (0, 0))] := hO
      have h4 : Owned w0 wr [(w0.heap.size, .cells (climbC 0 0 0 0) 23 (0, 0)), (w0.heap.size + 1, .cells (quotaC 0 0 0) 34 (0, 0)), (w2.heap.size, .cells (climbC h m l' s) 23 (0, 0)), (w2.heap.size + 1, .cells (quotaC c w' p) 34 (0, 0))] := Owned.comm (a := [_, _]) (b := [_, _]) (l := []) hO
      obtain ⟨t0, t1, t2, t3, _, _, _, _⟩ := climb_facts hO
      obtain ⟨q0, q1, q2, _, _, _⟩ := quota_facts hO.swap
      obtain ⟨g0, g1, g2, g3, k0, k1, k2, k3⟩ := climb_facts h4
      obtain ⟨v0, v1, v2, e0, e1, e2⟩ := quota_facts h4.swap
      have HO := Lib.hid (set3 (a' := c) (b' := w') (c' := p) (set4 (a' := h) (b' := m) (c' := l') (d' := s) h4).swap).drew
      have hn := h4.nodup
      simp only [List.map_cons, List.map_nil, List.nodup_cons, List.mem_cons, not_or] at hn
      obtain ⟨⟨n1, n2, n3, _⟩, ⟨n4, n5, _⟩, _⟩ := hn
      clear hO h4
      go_wp2_with fail
      go_region_with (fail)
      all_goals
        go_wp2_with fail
        exact bodyPost_ret (results_cell_cell rfl _ _ w0.heap.size (w0.heap.size + 1) _ _ (climbC h m l' s) (quotaC c w' p) _ _ _ _ rfl HO.out.swap.head und_climb rfl info_climb rfl HO.out.head und_quota rfl info_quota) rfl ⟨by rw [HX.out]; rfl, HO.out.below⟩
end Go.Proofs.Ytndmbajdafecoaa
