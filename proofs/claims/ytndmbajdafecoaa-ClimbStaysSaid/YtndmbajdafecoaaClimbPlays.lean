/- The statement ClimbPlays: the walk. -/
import Derived.Test.YtndmbajdafecoaaClimbLaws
namespace Go.Proofs.Ytndmbajdafecoaa
open Go.RowKit Go.Sep
theorem info_bool : (Try.prog.info? 4).map (fun i => (i.zero, i.size, i.bytes)) = some (some (.bool false), 1, 1) := by kernel_rfl
def bools (l : List Bool) : List Value := l.map Value.bool
theorem bools_one (l : List Bool) : ∀ v ∈ bools l, v.oneCell' = true := by
  intro v hv
  simp only [bools, List.mem_map] at hv
  obtain ⟨b, _, rfl⟩ := hv
  rfl
theorem bools_len (l : List Bool) : (bools l).length = l.length := by simp [bools]
theorem readsb_of_row {w0 w : World} {e : TypeId} {v : Value} {l : List Bool} {r F : Own} (hr : Row e 1 v l.length (bools l) r) (hl : l.length ≤ 9223372036854775807) (h : Owned w0 w (r ++ F)) : ReadsB w v l := by
  refine ⟨hl, ?_⟩
  rcases hr.2 with ⟨rfl, h0, rfl⟩ | ⟨g, cap, cur, rfl, rfl, h1, h2, h3, h4⟩
  · exact ⟨none, 0, by rw [h0], by omega, fun _ => rfl, fun hp => by omega⟩
  · refine ⟨some ⟨g, 0, none⟩, cap, rfl, h1, (fun h => by cases h), fun _ => ⟨g, 0, rfl, fun i hi => ?_⟩⟩
    refine (Owned.cell h _).trans ?_
    rw [Nat.mul_one] at h4
    have h5 : cur[i]? = (cur.toList.take l.length)[i]? := by rw [List.getElem?_take, if_pos hi]; simp
    rw [Nat.zero_add, h5, h4]
    simp [bools, List.getD, hi]
theorem readsb_cells {w : World} {A : Option Addr} {c : Nat} {l : List Bool} (h : ReadsB w (.slice A l.length c) l) : ∀ ad, A = some ad → ∀ j u, (bools l)[j]? = some u → w.cell? (ad.add j) = some u := by
  obtain ⟨_, A', c', hv, _, _, h2⟩ := h
  injection hv with e1 e2 e3
  subst e1
  intro ad had j u hj
  have hlt : j < l.length := by
    have := (List.getElem?_eq_some_iff.1 hj).1
    simpa [bools] using this
  obtain ⟨b, o, hA, hc⟩ := h2 (by omega)
  rw [hA] at had
  injection had with had
  subst had
  rw [Addr.add_mid, hc j hlt]
  simp only [bools, List.getElem?_map, Option.map_eq_some_iff] at hj
  obtain ⟨x, hx, rfl⟩ := hj
  simp [List.getD, hx]
set_option maxHeartbeats 800000 in
theorem plays_long (cap per : Int) (v : Value) (l : List Bool) (w0 : World) (hv : ReadsB w0 v l) (hl : 2000 < l.length) :
    Calls Try.prog 4 #[.int .i64 cap, .int .i64 per, v] w0 fun e w' => e = .returned (.bool true) ∧ Below w0.heap.size w0 w' := by
  obtain ⟨h1, A, c, rfl, _, _, _⟩ := hv
  have hd : decide (2000 < (l.length : Int)) = true := decide_eq_true (by omega)
  generalize l.length = n at *
  go_enter Try.func4, Try.ntmps4
  go_wp2_with fail
  go_at_call 8
  refine (small_calls _).mono ?_
  rintro e w1 ⟨rfl, hb1⟩
  go_wp2_with fail
  go_ret
  exact ⟨rfl, hb1⟩
set_option maxHeartbeats 6400000 in
theorem plays_walk (cap per : Int) (v : Value) (l : List Bool) (w0 : World) (hv : ReadsB w0 v l) (hl : l.length ≤ 2000) :
    Calls Try.prog 4 #[.int .i64 cap, .int .i64 per, v] w0 fun e w' => e = .returned (.bool true) ∧ Below w0.heap.size w0 w' := by
  have hv0 := hv
  obtain ⟨h1, A, c, rfl, hcap, hnil, hrd⟩ := hv0
  have hd : decide (2000 < (l.length : Int)) = false := decide_eq_false (by omega)
  have hA : A = none → l.length = 0 ∧ c = 0 := fun h => by have := hnil h; omega
  have HV := Lib.hid hv
  have HA := Lib.hid hA
  have c2 := fun v w hv => play_calls cap per v l w hv
  have c3 := fun v w hv => rplay_calls cap per v l w hv
  generalize playP cap per l = x at *
  obtain ⟨h, m, l', s, q, w', p⟩ := x
  have c2 : ∀ v w, ReadsB w v l → Calls Try.prog 19 #[.int .i64 cap, .int .i64 per, v] w fun e w'' => e = .returned (.tuple #[.agg #[.int .i64 h, .int .i64 m, .int .i64 l', .int .i64 s], .agg #[.int .i64 q, .int .i64 w', .int .i64 p]]) ∧ Below w.heap.size w w'' := c2
  have c3 : ∀ v w, ReadsB w v l → Calls Try.prog 20 #[.int .i64 cap, .int .i64 per, v] w fun e w'' => e = .returned (.tuple #[.agg #[.int .i64 h, .int .i64 m, .int .i64 l', .int .i64 s], .agg #[.int .i64 q, .int .i64 w', .int .i64 p]]) ∧ Below w.heap.size w w'' := c3
  have HB := Lib.hid (bools_len l)
  have HL := Lib.hid hl
  clear hv hA hnil hrd
  go_enter Try.func4, Try.ntmps4
  go_wp2_with fail
  go_at_call 8
  refine (small_calls _).mono ?_
  rintro e w1 ⟨rfl, hb1⟩
  have hO1 := ((Owned.nil w0).under hb1).alloc (.cells #[] 4)
  have hr0 : Row 4 1 (.slice (some ⟨w1.heap.size, 0, none⟩) 0 0) 0 [] [(w1.heap.size, .cells #[] 4 (0, 0))] := ⟨rfl, .inr ⟨_, 0, #[], rfl, rfl, by omega, by unfold maxLen; omega, rfl, rfl⟩⟩
  have HO1 := Lib.hid hO1
  have HR0 := Lib.hid hr0
  have hvb := HV.out.below (hO1.below.mono (Nat.le_refl _))
  have HVB := Lib.hid hvb
  clear hO1 hr0 hvb
  have HVL := Lib.hid (show l.length ≤ 9223372036854775807 from h1)
  clear h1
  go_wp2_with (first
    | (at_builtin; refine append_any rfl (.tmp 19) (.tmp 20) 32 rfl 4 (.bool false) 1 1 Try.underlying32 info_bool rfl (by omega) _ 0 [] _ [] rfl HR0.out HO1.out A l.length c (bools l) rfl (by rw [HB.out, Nat.mul_one]) HA.out (readsb_cells HVB.out) (bools_one l) (by have := HL.out; unfold maxLen; omega) (by have := HL.out; omega) ?_; intro v2 r2 w2 hr2 hO2; simp only [Nat.zero_add, List.nil_append] at hr2; have HR2 := Lib.hid hr2; have HO2 := Lib.hid hO2; clear hr2 hO2 HO1)
    | (go_at_call 19; refine (c2 _ _ (readsb_of_row HR2.out HVL.out HO2.out)).mono ?_; rintro e w3 ⟨rfl, hb3⟩; have HO3 := Lib.hid ((HO2.out.under hb3).alloc2 (.cells #[.int .i64 0, .int .i64 0, .int .i64 0, .int .i64 0] 23) (.cells #[.int .i64 0, .int .i64 0, .int .i64 0] 34)); clear HO2)
    | (refine store_whole rfl _ _ _ rfl w3.heap.size rfl HO3.out #[.int .i64 h, .int .i64 m, .int .i64 l', .int .i64 s] rfl rfl info_climb (climb_one _ _ _ _) ?_; intro w4 hO4; have HO4 := Lib.hid hO4.swap; clear hO4 HO3)
    | (refine store_whole rfl _ _ _ rfl (w3.heap.size + 1) rfl HO4.out #[.int .i64 q, .int .i64 w', .int .i64 p] rfl rfl info_quota (quota_one _ _ _) ?_; intro w5 hO5; have HO5 := Lib.hid hO5.swap; clear hO5 HO4)
    | (go_at_call 20; refine (c3 _ _ (HV.out.below HO5.out.below)).mono ?_; rintro e w6 ⟨rfl, hb6⟩; have HO6 := Lib.hid ((HO5.out.under hb6).alloc2 (.cells #[.int .i64 0, .int .i64 0, .int .i64 0, .int .i64 0] 23) (.cells #[.int .i64 0, .int .i64 0, .int .i64 0] 34)); clear HO5)
    | (refine store_whole rfl _ _ _ rfl w6.heap.size rfl HO6.out #[.int .i64 h, .int .i64 m, .int .i64 l', .int .i64 s] rfl rfl info_climb (climb_one _ _ _ _) ?_; intro w7 hO7; have HO7 := Lib.hid hO7.swap; clear hO7 HO6)
    | (refine store_whole rfl _ _ _ rfl (w6.heap.size + 1) rfl HO7.out #[.int .i64 q, .int .i64 w', .int .i64 p] rfl rfl info_quota (quota_one _ _ _) ?_; intro w8 hO8; have HO8 := Lib.hid hO8; clear hO8 HO7))
  have hrv := HV.out.below HO8.out.below
  have hr8 := readsb_of_row (w := w8) HR2.out HVL.out (Owned.comm (a := [_, _, _, _]) (b := r2) (l := []) HO8.out)
  obtain ⟨_, A8, c8, rfl, _, _, hc8⟩ := hr8
  obtain ⟨_, A9, c9, hA9, _, _, hc9⟩ := hrv
  injection hA9 with hA9 hn9 hc0
  subst hA9
  subst hc0
  clear hn9
  have hcell : ∀ k, k < l.length → ∃ b o b' o', A8 = some ⟨b, o, none⟩ ∧ A = some ⟨b', o', none⟩ ∧ w8.cell? ⟨b, o + k, none⟩ = some (.bool (l.getD k false)) ∧ w8.cell? ⟨b', o' + k, none⟩ = some (.bool (l.getD k false)) := fun k hk => by
    obtain ⟨b, o, e1, e2⟩ := hc8 (by omega)
    obtain ⟨b', o', e3, e4⟩ := hc9 (by omega)
    exact ⟨b, o, b', o', e1, e3, e2 k hk, e4 k hk⟩
  have HC := Lib.hid hcell
  clear hcell hc8 hc9 HV HR0 HVB c2 c3 HR2 HA HB
  generalize l.length = N at *
  go_loopw [13] (fun x13 wr => ∃ k : Nat, k ≤ N ∧ x13 = .int .i64 k ∧ ∃ n, wr = w8.drewN n) (fun x13 _ => N - (intOf x13).toNat)
  case atStart => exact ⟨0, by omega, rfl, 0, rfl⟩
  case round =>
    obtain ⟨k, hk, rfl, n, rfl⟩ := hrel
    by_cases hlt : k < N
    · obtain ⟨b, o, b', o', rfl, rfl, e1, e2⟩ := HC.out k hlt
      generalize l.getD k false = y at *
      clear HC
      go_wp2_with fail
      go_quiet (fail)
      go_wp2_with fail
      go_roundw
      case rel => exact ⟨k + 1, by omega, by go_num, _, rfl⟩
      case measure => simp [intOf]; omega
    · obtain rfl : k = N := by omega
      clear HC
      have hO := HO8.out.drewN n
      have HO := Lib.hid hO
      clear hO HO8
      obtain ⟨a0, a1, a2, a3, _, _, _, _⟩ := climb_facts (a := h) (b := m) (c := l') (d := s) HO.out.swap2
      obtain ⟨b0, b1, b2, b3, _, _, _, _⟩ := climb_facts (a := h) (b := m) (c := l') (d := s) HO.out.swap
      obtain ⟨d0, d1, d2, _, _, _⟩ := quota_facts (a := q) (b := w') (c := p) (Owned.fourth (a := [_]) (b := [_]) (c := [_]) (d := [_]) HO.out)
      obtain ⟨e0, e1, e2, _, _, _⟩ := quota_facts (a := q) (b := w') (c := p) HO.out
      go_wp2_with fail
      go_ret
      exact ⟨rfl, HO.out.below⟩
end Go.Proofs.Ytndmbajdafecoaa
