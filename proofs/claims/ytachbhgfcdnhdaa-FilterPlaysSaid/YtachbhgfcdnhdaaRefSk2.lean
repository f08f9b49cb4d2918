/- Contracts of the document's sketch (pantryref03): halve, add, new. -/
import Derived.Test.YtachbhgfcdnhdaaRefSk
import Derived.Deep.RegionWith
namespace Go.Proofs.Ytachbhgfcdnhdaa
open Go.RowKit NibPure Go.Sep
theorem rowV_congr {S T : Nat → Nat → Nat} {k W : Nat} (h : ∀ c, c < W → S k c = T k c) : rowV S k W = rowV T k W := by
  unfold rowV rowN
  congr 2
  exact List.map_congr_left (fun c hc => by rw [h c (List.mem_range.1 hc)])
theorem rsB_congr {g W N : Nat} {seed : Int} {rb : Nat → Nat} {S T : Nat → Nat → Nat} (h : ∀ i c, i < 4 → c < W → S i c = T i c) : rsB g seed W N rb S = rsB g seed W N rb T := by
  unfold rsB
  rw [rowV_congr (k := 0) (fun c => h 0 c (by omega)), rowV_congr (k := 1) (fun c => h 1 c (by omega)), rowV_congr (k := 2) (fun c => h 2 c (by omega)), rowV_congr (k := 3) (fun c => h 3 c (by omega))]
def RHalf (S : Nat → Nat → Nat) (k q : Nat) : Nat → Nat → Nat := fun i c => if i < k ∨ (i = k ∧ c < q) then S i c / 2 else S i c
theorem RHalf_step (S : Nat → Nat → Nat) (k q : Nat) : updS (RHalf S k q) k q (S k q / 2) = RHalf S k (q + 1) := by
  funext i c
  unfold updS RHalf
  by_cases e : i = k ∧ c = q
  · rw [if_pos e, if_pos (by omega), e.1, e.2]
  · rw [if_neg e]
    by_cases e2 : i < k ∨ (i = k ∧ c < q)
    · rw [if_pos e2, if_pos (by omega)]
    · rw [if_neg e2, if_neg (by omega)]
section
variable {g W N : Nat} {seed : Int} {rb : Nat → Nat} {S : Nat → Nat → Nat} {w0 w : World} {F : Own}
set_option maxHeartbeats 3200000 in
set_option maxRecDepth 100000 in
theorem rs_halve (hS : Lo S) (hW : W ≤ 65536) (hN : N ≤ 2000000) (h : Owned w0 w (rsB g seed W N rb S ++ F)) :
    Calls Try.prog 40 #[.pointer (some ⟨g, 0, none⟩)] w fun e w' => e = .returned (.tuple #[]) ∧ Owned w0 w' (rsB g seed W (N / 2) rb (fun i c => S i c / 2) ++ F) := by
  have HS := Lib.hid hS
  have h0 : RHalf S 0 0 = S := by funext i c; unfold RHalf; rw [if_neg (by omega)]
  rw [← h0] at h
  have HO := Lib.hid h
  clear h0 h hS
  go_enter Try.func40, Try.ntmps40
  go_wp2_with fail
  go_loopw [2, 3] (fun x2 _ wr => ∃ k : Nat, k ≤ 4 ∧ x2 = .int .i64 k ∧ Hid (Owned w0 wr (rsB g seed W N rb (RHalf S k 0) ++ F))) (fun x2 _ _ => 4 - (intOf x2).toNat)
  case atStart => exact ⟨0, by omega, rfl, HO⟩
  case round =>
    obtain ⟨k, hk, rfl, hrel⟩ := hrel
    clear HO
    by_cases hlt : k < 4
    · have HREL := hrel
      have hdec : decide ((k : Int) < 4) = true := decide_eq_true (by omega)
      clear hrel
      go_wp2_with fail
      go_loopw [3] (fun x3 wr => ∃ q : Nat, q ≤ W ∧ x3 = .int .i64 q ∧ Hid (Owned w0 wr (rsB g seed W N rb (RHalf S k q) ++ F))) (fun x3 _ => W - (intOf x3).toNat)
      case atStart => exact ⟨0, by omega, rfl, HREL⟩
      case round =>
        clear HREL hdec
        obtain ⟨q, hq, rfl, hrel2⟩ := hrel
        have c0 := rs_c0 hrel2.out
        by_cases hqn : q < W
        · have cr := rs_row hrel2.out k hlt
          have cc := rs_cell hrel2.out hlt hqn
          have cf := rs_free hrel2.out hlt q
          have hv : RHalf S k q k q = S k q := by unfold RHalf; rw [if_neg (by omega)]
          rw [hv] at cc
          have hx := HS.out k q
          have e2 : (((S k q / 2 : Nat)) : Int) = ((S k q : Nat) : Int) / 2 := by omega
          have hn := rs_set hrel2.out hlt q (S k q / 2)
          rw [RHalf_step, e2] at hn
          have HN := Lib.hid hn
          clear hv hn e2 hrel2
          generalize S k q = x at *
          have hwr : IntKind.i64.wrap ((x : Int) / 2) = (x : Int) / 2 := by rw [IntKind.wrap_i64]; omega
          have k3 : ((q : Nat) : Int) < (W : Int) := by omega
          have k4 : (0 : Int) ≤ ((q : Nat) : Int) := by omega
          have k5 : (k : Int) < 4 := by omega
          have k6 : (0 : Int) ≤ (k : Int) := by omega
          go_wp2_with fail
          go_still_tail 18, (by kernel_rfl)
          go_wp2_with fail
          go_roundw
          case rel => exact ⟨q + 1, by omega, by go_num, Lib.hid HN.out.drew⟩
          case measure => simp [intOf]; omega
        · obtain rfl : q = W := by omega
          have e : rsB g seed q N rb (RHalf S k q) = rsB g seed q N rb (RHalf S (k + 1) 0) := rsB_congr (fun i c _ hc => by
            unfold RHalf
            by_cases e2 : i < k ∨ (i = k ∧ c < q)
            · rw [if_pos e2, if_pos (by omega)]
            · rw [if_neg e2, if_neg (by omega)])
          have HK := Lib.hid (show Owned w0 wr (rsB g seed q N rb (RHalf S (k + 1) 0) ++ F) from e ▸ hrel2.out)
          clear hrel2 e
          go_wp2_with fail
          go_roundw
          case rel => exact ⟨k + 1, by omega, by go_num, HK⟩
          case measure => simp [intOf]; omega
    · obtain rfl : k = 4 := by omega
      have c2 := rs_c2 hrel.out
      have cf : wr.frozen? ⟨g, 2, none⟩ = false := Owned.frozen hrel.out 2
      have e : rsB g seed W N rb (RHalf S 4 0) = rsB g seed W N rb (fun i c => S i c / 2) := rsB_congr (fun i c hi _ => by unfold RHalf; rw [if_pos (Or.inl hi)])
      have hO := hrel.out
      rw [e] at hO
      have HO2 := Lib.hid (show Owned w0 (wr.setCell ⟨g, 2, none⟩ (.int .i64 ((N : Int) / 2))) (rsB g seed W (N / 2) rb (fun i c => S i c / 2) ++ F) from by
        rw [show (N : Int) / 2 = ((N / 2 : Nat) : Int) by omega]
        exact Owned.set hO 2 (.int .i64 ((N / 2 : Nat) : Int)))
      clear hO hrel e
      go_wp2_with fail
      go_end0
      exact ⟨rfl, HO2.out⟩
theorem addS_step {S : Nat → Nat → Nat} {p : Nat → Nat} {k : Nat} (h : S k (p k) < 15) : updS (addS S p k) k (p k) (S k (p k) + 1) = addS S p (k + 1) := by
  funext i c
  unfold updS addS
  by_cases e : i = k ∧ c = p k
  · obtain ⟨rfl, rfl⟩ := e
    rw [if_pos ⟨rfl, rfl⟩, if_pos ⟨by omega, rfl⟩]; omega
  · rw [if_neg e]
    by_cases e2 : i < k ∧ c = p i
    · rw [if_pos e2, if_pos ⟨by omega, e2.2⟩]
    · rw [if_neg e2, if_neg (fun h2 => e ⟨by
        have : ¬ i < k := fun h3 => e2 ⟨h3, h2.2⟩
        omega, by
        have : ¬ i < k := fun h3 => e2 ⟨h3, h2.2⟩
        have e6 : i = k := by omega
        rw [h2.2, e6]⟩)]
theorem addS_full {S : Nat → Nat → Nat} {p : Nat → Nat} {k : Nat} (h : S k (p k) = 15) : addS S p k = addS S p (k + 1) := by
  funext i c
  unfold addS
  by_cases e2 : i < k ∧ c = p i
  · rw [if_pos e2, if_pos ⟨by omega, e2.2⟩]
  · rw [if_neg e2]
    by_cases e3 : i < k + 1 ∧ c = p i
    · have : ¬ i < k := fun h3 => e2 ⟨h3, e3.2⟩
      obtain rfl : i = k := by omega
      rw [if_pos e3, e3.2, h]; rfl
    · rw [if_neg e3]
set_option maxHeartbeats 3200000 in
set_option maxRecDepth 100000 in
theorem rs_add (key : Int) (hS : Lo S) (hW0 : 1 ≤ W) (hW : W ≤ 65536) (hN : N ≤ 1000000) {p : Nat → Nat} (hp : plS seed key W = p) {more aged : Bool} (hm : anyS S p 4 = more) (ha : (more && decide (10 * W ≤ N + 1)) = aged) (h : Owned w0 w (rsB g seed W N rb S ++ F)) :
    Calls Try.prog 25 #[.pointer (some ⟨g, 0, none⟩), .int .i64 key] w fun e w' => e = .returned (.tuple #[.bool more, .bool aged]) ∧ Owned w0 w' (rsB g seed W (numOf N more aged) rb (addOf S p aged) ++ F) := by
  have hpl := fun k => plS_lt seed key hW0 k
  rw [hp] at hpl
  have hat := fun (k : Nat) (T : Nat → Nat → Nat) (w : World) (h : Owned w0 w (rsB g seed W N rb T ++ F)) => rs_at key k (by omega) h
  rw [hp] at hat
  have HAT := Lib.hid hat
  have HP := Lib.hid hpl
  have hA : ∀ k, anyS S p (k + 1) = (anyS S p k || decide (S k (p k) < 15)) := fun k => rfl
  have HA := Lib.hid hA
  have HS := Lib.hid hS
  have h0 : addS S p 0 = S := by funext i c; unfold addS; rw [if_neg (by omega)]
  rw [← h0] at h
  have HO := Lib.hid h
  have HAG := Lib.hid ha
  clear hp hpl hat hA h0 h ha
  generalize hM : anyS S p = M at *
  have HM := Lib.hid (show M 0 = false from by rw [← hM]; rfl)
  have HM4 := Lib.hid hm
  clear hM hm
  go_enter Try.func25, Try.ntmps25
  go_wp2_with fail
  go_loopw [6, 7] (fun x6 x7 wr => ∃ k : Nat, k ≤ 4 ∧ x7 = .int .i64 k ∧ x6 = .bool (M k) ∧ Hid (Owned w0 wr (rsB g seed W N rb (addS S p k) ++ F))) (fun _ x7 _ => 4 - (intOf x7).toNat)
  case atStart => exact ⟨0, by omega, rfl, by rw [HM.out], HO⟩
  case round =>
    clear HO
    obtain ⟨k, hk, rfl, rfl, hrel⟩ := hrel
    by_cases hlt : k < 4
    · have ca := HAT.out k _ wr hrel.out
      have hpk := HP.out k
      have hx := HS.out k (p k)
      have hmk := HA.out k
      have HMK := Lib.hid hmk
      clear hmk
      have k3 : ((p k : Nat) : Int) < (W : Int) := by omega
      have k4 : (0 : Int) ≤ ((p k : Nat) : Int) := by omega
      by_cases hf : S k (p k) < 15
      · have hst := addS_step hf
        have hval : addS S p k k (p k) = S k (p k) := by unfold addS; rw [if_neg (by omega)]
        have HV := Lib.hid hval
        have HST := Lib.hid hst
        have HF := Lib.hid (decide_eq_true hf)
        clear hval hst
        go_wp2_with fail
        go_at_call 39
        refine (ca).mono ?_
        rintro e w1 ⟨rfl, hb1⟩
        have HO1 := Lib.hid (hrel.out.under hb1)
        clear ca hb1 hrel
        have cr := rs_row HO1.out k hlt
        have cc := rs_cell HO1.out hlt hpk
        rw [HV.out] at cc
        have cf := rs_free HO1.out hlt (p k)
        have hn := rs_set HO1.out hlt (p k) (S k (p k) + 1)
        rw [HST.out, show ((S k (p k) + 1 : Nat) : Int) = ((S k (p k) : Nat) : Int) + 1 by omega] at hn
        have HN := Lib.hid hn
        clear hn
        generalize S k (p k) = x at *
        generalize p k = pk at *
        generalize M k = mk at *
        have hf2 : decide ((x : Int) < 15) = true := decide_eq_true (by omega)
        go_wp2_with fail
        go_roundw
        case rel => exact ⟨k + 1, by omega, by go_num, by rw [HMK.out, HF.out, Bool.or_true], HN⟩
        case measure => simp [intOf]; omega
      · have hst := addS_full (S := S) (p := p) (k := k) (by omega)
        have hval : addS S p k k (p k) = S k (p k) := by unfold addS; rw [if_neg (by omega)]
        have HV := Lib.hid hval
        have HST := Lib.hid hst
        have HF := Lib.hid (decide_eq_false hf)
        clear hval hst
        go_wp2_with fail
        go_at_call 39
        refine (ca).mono ?_
        rintro e w1 ⟨rfl, hb1⟩
        have HO1 := Lib.hid (hrel.out.under hb1)
        clear ca hb1 hrel
        have cr := rs_row HO1.out k hlt
        have cc := rs_cell HO1.out hlt hpk
        rw [HV.out] at cc
        have HN := Lib.hid (show Owned w0 w1 (rsB g seed W N rb (addS S p (k + 1)) ++ F) from HST.out ▸ HO1.out)
        generalize S k (p k) = x at *
        generalize p k = pk at *
        generalize M k = mk at *
        have hf2 : decide ((x : Int) < 15) = false := decide_eq_false (by omega)
        go_wp2_with fail
        go_roundw
        case rel => exact ⟨k + 1, by omega, by go_num, by rw [HMK.out, HF.out, Bool.or_false], HN⟩
        case measure => simp [intOf]; omega
    · obtain rfl : k = 4 := by omega
      rw [HM4.out]
      have HO := hrel
      clear hrel
      cases more with
      | false =>
        obtain rfl : aged = false := by rw [← HAG.out]; rfl
        go_wp2_with fail
        go_ret2
        exact ⟨rfl, HO.out⟩
      | true =>
        have c2 := rs_c2 HO.out
        have cf : wr.frozen? ⟨g, 2, none⟩ = false := Owned.frozen HO.out 2
        have hset : Owned w0 (wr.setCell ⟨g, 2, none⟩ (.int .i64 ((N : Int) + 1))) (rsB g seed W (N + 1) rb (addS S p 4) ++ F) := by
          rw [show (N : Int) + 1 = ((N + 1 : Nat) : Int) by omega]
          exact Owned.set HO.out 2 (.int .i64 ((N + 1 : Nat) : Int))
        have HSET := Lib.hid hset
        have d0 := cell_regrown (rs_c0 hset)
        have d2 := cell_regrown (rs_c2 hset)
        rw [show ((N + 1 : Nat) : Int) = (N : Int) + 1 by omega] at d2
        clear hset HO
        go_wp2_with fail
        clear c2 cf
        refine wp_region_quiet_below (by kernel_rfl) (by kernel_rfl) ?_
        repeat (first | go_big_quiet_step (fail) | quiet_step (fail))
        refine wpQuiet_nil ?_
        intro _ hw'
        obtain ⟨⟨dq, osq⟩, hw''⟩ := hw'
        subst hw''
        have HO4 := Lib.hid (HSET.out.under (below_regrown _ dq osq))
        generalize (Go.Sort.grow (redrawn (wr.setCell ⟨g, 2, none⟩ (.int .i64 ((N : Int) + 1))) dq) osq) = w4 at *
        clear d0 d2 HSET
        by_cases hage : 10 * W ≤ N + 1
        · obtain rfl : aged = true := by rw [← HAG.out, decide_eq_true hage]; rfl
          have hdec : decide (10 * (W : Int) ≤ (N : Int) + 1) = true := decide_eq_true (by omega)
          have ch := rs_halve (addS_lo HS.out p 4) hW (by omega) HO4.out
          go_wp2_with fail
          go_at_call 40
          refine (ch).mono ?_
          rintro e w5 ⟨rfl, hO5⟩
          have HO5 := Lib.hid hO5
          clear ch hO5
          go_wp2_with fail
          go_ret2
          exact ⟨rfl, HO5.out⟩
        · obtain rfl : aged = false := by rw [← HAG.out, decide_eq_false hage]; rfl
          have hdec : decide (10 * (W : Int) ≤ (N : Int) + 1) = false := decide_eq_false (by omega)
          go_wp2_with fail
          go_ret2
          exact ⟨rfl, HO4.out⟩
def rNewB (g : Nat) (seed : Int) (W : Nat) (bs : Nat → Nat) (k : Nat) : Own :=
  (g, .cells #[.int .i64 (W : Int), .int .i64 seed, .int .i64 0, slV W bs k 0, slV W bs k 1, slV W bs k 2, slV W bs k 3] 56 (0, 0)) :: (List.range k).map (fun i => (bs i, .cells (rowV (fun _ _ => 0) i W) 3 (0, 0)))
def RNewRel (w0 : World) (F : Own) (g : Nat) (seed : Int) (W k : Nat) (w : World) : Prop := ∃ bs, Owned w0 w (rNewB g seed W bs k ++ F)
theorem rowV_zero (i W : Nat) : rowV (fun _ _ => 0) i W = (List.replicate W (Value.int .i64 0)).toArray := by
  unfold rowV rowN ints
  congr 1
  rw [List.map_map]
  apply List.ext_getElem (by simp)
  intro j h1 h2
  simp
theorem rnew_step {g W : Nat} {seed : Int} {w0 w : World} {F : Own} {bs : Nat → Nat} {k : Nat} (hk : k < 4) (h : Owned w0 w (rNewB g seed W bs k ++ F)) :
    RNewRel w0 F g seed W (k + 1) ((w.setCell ⟨g, 3 + k, none⟩ (.slice (some ⟨w.heap.size, 0, none⟩) W W)).alloc (.cells (List.replicate W (Value.int .i64 0)).toArray 3)).drew := by
  have h2 := ((Owned.set h (3 + k) (.slice (some ⟨w.heap.size, 0, none⟩) W W)).alloc (.cells (List.replicate W (Value.int .i64 0)).toArray 3)).swap.drew
  rw [show (w.setCell ⟨g, 3 + k, none⟩ (.slice (some ⟨w.heap.size, 0, none⟩) W W)).heap.size = w.heap.size by simp] at h2
  refine ⟨fun i => if i = k then w.heap.size else bs i, ?_⟩
  have hm : (List.range k).map (fun i => ((if i = k then w.heap.size else bs i), Obj.cells (rowV (fun _ _ => 0) i W) 3 (0, 0))) = (List.range k).map (fun i => (bs i, Obj.cells (rowV (fun _ _ => 0) i W) 3 (0, 0))) :=
    List.map_congr_left (fun i hi => by rw [if_neg (by have := List.mem_range.1 hi; omega)])
  unfold rNewB
  rw [List.range_succ, List.map_append, hm]
  refine h2.perm ?_
  have hcells : (#[Value.int .i64 (W : Int), .int .i64 seed, .int .i64 0, slV W bs k 0, slV W bs k 1, slV W bs k 2, slV W bs k 3]).setIfInBounds (3 + k) (.slice (some ⟨w.heap.size, 0, none⟩) W W) =
      #[.int .i64 (W : Int), .int .i64 seed, .int .i64 0, slV W (fun i => if i = k then w.heap.size else bs i) (k + 1) 0, slV W (fun i => if i = k then w.heap.size else bs i) (k + 1) 1, slV W (fun i => if i = k then w.heap.size else bs i) (k + 1) 2, slV W (fun i => if i = k then w.heap.size else bs i) (k + 1) 3] := by
    rcases (show k = 0 ∨ k = 1 ∨ k = 2 ∨ k = 3 by omega) with rfl | rfl | rfl | rfl <;> simp [slV]
  rw [hcells]
  simp only [List.cons_append, List.map_cons, List.map_nil, List.append_assoc, if_true, rowV_zero]
  refine List.Perm.cons _ ?_
  exact (List.perm_middle (a := (w.heap.size, Obj.cells (List.replicate W (Value.int .i64 0)).toArray 3 (0, 0))) (l₁ := (List.range k).map (fun i => (bs i, Obj.cells (List.replicate W (Value.int .i64 0)).toArray 3 (0, 0)))) (l₂ := F)).symm
theorem rNewB_rsB (g : Nat) (seed : Int) (W : Nat) (bs : Nat → Nat) : rNewB g seed W bs 4 = rsB g seed W 0 bs (fun _ _ => 0) := by
  simp [rNewB, rsB, slV, List.range_succ]
set_option maxHeartbeats 3200000 in
set_option maxRecDepth 100000 in
theorem rs_new (cap seed : Int) (h : Owned w0 w F) :
    Calls Try.prog 19 #[.int .i64 cap, .int .i64 seed] w fun e w' => ∃ g bs, e = .returned (.pointer (some ⟨g, 0, none⟩)) ∧ Owned w0 w' (rsB g seed (16 * wordN cap) 0 bs (fun _ _ => 0) ++ F) := by
  have hc := refceil_calls cap 16 65536 4 16 rfl rfl (by omega) (by omega)
  have e0 : P2 (up cap 4 (16 - 4)) = ((2 ^ (up cap 4 12) : Nat) : Int) := P2_nat _
  obtain ⟨e1, n1, n2⟩ := wordN_16 cap
  rw [e0, e1] at hc
  have hW2 : 16 * wordN cap ≤ 65536 := by omega
  clear e0 e1 n1 n2
  generalize 16 * wordN cap = W at *
  have hO := h.alloc (.cells #[.int .i64 (W : Int), .int .i64 seed, .int .i64 0, .slice none 0 0, .slice none 0 0, .slice none 0 0, .slice none 0 0] 56)
  have HO := Lib.hid (show RNewRel w0 F w.heap.size seed W 0 (w.alloc (.cells #[.int .i64 (W : Int), .int .i64 seed, .int .i64 0, .slice none 0 0, .slice none 0 0, .slice none 0 0, .slice none 0 0] 56)) from ⟨fun _ => 0, hO⟩)
  have hmk := fun w => run_make_row' (P := Try.prog) 22 3 (.int .i64 0) 8 Try.underlying22 infoI rfl .i64 .i64 W (by omega) (by omega) w
  simp only [madeCells_one] at hmk
  clear h hO
  generalize hg : w.heap.size = g at *
  go_enter Try.func19, Try.ntmps19
  go_wp2_with fail
  go_at_call 32
  refine (hc _).mono ?_
  rintro e w1 ⟨rfl, rfl⟩
  go_wp2_with fail
  clear hc
  go_loopw [7] (fun x7 wr => ∃ k : Nat, k ≤ 4 ∧ x7 = .int .i64 k ∧ Hid (RNewRel w0 F g seed W k wr)) (fun x7 _ => 4 - (intOf x7).toNat)
  case atStart => exact ⟨0, by omega, rfl, by simpa using HO⟩
  case round =>
    clear HO hg
    obtain ⟨k, hk, rfl, hrel⟩ := hrel
    obtain ⟨bs, hO⟩ := hrel.out
    by_cases hlt : k < 4
    · have cf : wr.frozen? ⟨g, 3 + k, none⟩ = false := Owned.frozen hO _
      have cl : wr.cell? ⟨g, 3 + k, none⟩ = some (.slice none 0 0) := by
        refine (Owned.cell hO (3 + k)).trans ?_
        rcases (show k = 0 ∨ k = 1 ∨ k = 2 ∨ k = 3 by omega) with rfl | rfl | rfl | rfl <;> simp [slV]
      have hgl := Owned.lt hO
      have HNEW := Lib.hid (rnew_step hlt hO)
      clear hrel hO
      go_wp2_with fail
      go_region_with (fail)
      all_goals
        go_wp2_with fail
        go_roundw
        case rel => exact ⟨k + 1, by omega, by go_num, HNEW⟩
        case measure => simp [intOf]; omega
    · obtain rfl : k = 4 := by omega
      have HO := Lib.hid hO
      clear hrel hO
      go_wp2_with fail
      go_ret
      exact ⟨g, bs, rfl, by rw [← rNewB_rsB]; exact HO.out⟩
end
end Go.Proofs.Ytachbhgfcdnhdaa
