/- The document's deque: All, Front, Back, Weight, Len. -/
import Derived.Test.YtlnokijfmkldkaaRefDq2
namespace Go.Proofs.Ytlnokijfmkldkaa
open Go.RowKit Go.Sep DqPure
theorem ids_take (l : List (Int × Int)) {j : Nat} (h : j < l.length) : ints ((l.map (·.1)).take (j + 1)) = ints ((l.map (·.1)).take j) ++ [.int .i64 (l.getD j (0, 0)).1] := by
  rw [List.take_succ_eq_append_getElem (by rw [List.length_map]; exact h), ints_snoc, List.getElem_map]
  simp [List.getD, h]
theorem sum_take (l : List (Int × Int)) {j : Nat} (h : j < l.length) : sumW (l.take (j + 1)) = sumW (l.take j) + (l.getD j (0, 0)).2 := by
  have e1 : l.getD j (0, 0) = l[j] := by simp [List.getD, h]
  rw [List.take_succ_eq_append_getElem h, sumW_append, e1]
  show _ + (l[j].2 + 0) = _
  omega
section
variable {g m : Nat} {st : Sts} {r F : Own} {w0 w : World}
def AllAt (w0 : World) (F : Own) (l : List (Int × Int)) (j : Nat) (v : Value) (w : World) : Prop := ∃ q, Row 3 1 v j (ints ((l.map (·.1)).take j)) q ∧ Owned w0 w (q ++ F)
set_option maxHeartbeats 3200000 in
set_option maxRecDepth 100000 in
theorem rd_all_good (k : Nat) (hk : k < m) (h : RdAt g m st r) (hm : m ≤ 16) (hlen : (st k).length ≤ 1000000) (hO : Owned w0 w (r ++ F)) :
    Calls Try.prog 36 #[.pointer (some ⟨g, 0, none⟩), .int .i64 (k : Int)] w fun e w' => ∃ v q, e = .returned v ∧ Row 3 1 v (st k).length (ints ((st k).map (·.1))) q ∧ Owned w0 w' (q ++ (r ++ F)) := by
  have HRC := Lib.hid (fun (W : World) (X : Own) (hX : Owned w0 W (r ++ X)) => (by
    have h9 := rd_row_calls (k : Int) h hX
    rw [decide_eq_true (show Good m (k : Int) from ⟨by omega, by omega⟩)] at h9
    exact h9 : Calls Try.prog 33 #[.pointer (some ⟨g, 0, none⟩), .int .i64 (k : Int)] W fun e w' => e = .returned (.bool true) ∧ w' = W))
  obtain ⟨v, q, vs, os, hre, hI⟩ := h
  obtain ⟨A, c, rfl, hc, hrows⟩ := rd_reads (w0 := w0) (g := g) hI
  obtain ⟨b, rfl, hr⟩ := hrows (by omega)
  obtain ⟨Ai, ci, -, h1, h2⟩ := hr k hk
  rw [← hre] at hc h1 h2
  obtain ⟨n, hn⟩ : ∃ n, (st k).length = n := ⟨_, rfl⟩
  have HIT := Lib.hid h2
  have HC := Lib.hid (show ∀ W X, Owned w0 W (r ++ X) → W.cell? ⟨g, 0, none⟩ = some (.slice (some ⟨b, 0, none⟩) m c) ∧ W.cell? ⟨b, k, none⟩ = some (.slice Ai n ci) from fun W X hX => ⟨hc W X hX, by rw [← hn]; exact h1 W X hX⟩)
  have HN := Lib.hid hn
  have HO := Lib.hid (show AllAt w0 (r ++ F) (st k) 0 (.slice none 0 0) w from ⟨[], Row.nil _ _, hO⟩)
  rw [hn] at hlen ⊢
  clear hc h1 h2 hr hrows hI hO hn hre
  go_enter Try.func36, Try.ntmps36
  go_wp2_with fail
  go_loopw [5, 6] (fun x5 x6 wr => ∃ j : Nat, j ≤ n ∧ x6 = .int .i64 (j : Int) ∧ Hid (AllAt w0 (r ++ F) (st k) j x5 wr)) (fun _ x6 _ => n - (intOf x6).toNat)
  case atStart => exact ⟨0, Nat.zero_le _, rfl, HO⟩
  case round =>
    clear HO
    obtain ⟨j, hj, rfl, hrel⟩ := hrel
    obtain ⟨q1, hrow, hO⟩ := hrel.out
    clear hrel
    have hOr : Owned w0 wr (r ++ (q1 ++ F)) := hO.comm
    have CR := Lib.hid (HRC.out _ _ hOr)
    obtain ⟨c0, c1⟩ := HC.out _ _ hOr
    by_cases hjn : j < n
    · obtain ⟨bi, rfl, hcell⟩ := HIT.out (by rw [HN.out]; omega)
      have cx := (hcell _ _ hOr j (by rw [HN.out]; exact hjn)).1
      have HX := Lib.hid (ids_take (st k) (by rw [HN.out]; exact hjn))
      generalize ((st k).getD j (0, 0)).1 = x at cx HX
      have hm1 : j + 1 ≤ maxLen := by unfold maxLen; omega
      have hm2 : (j + 1) * 8 ≤ 140737488355328 := by omega
      clear hcell HIT HRC HC hOr
      go_wp2_with fail
      go_at_call 33
      refine (CR.out).mono ?_
      rintro e w4 ⟨rfl, rfl⟩
      go_wp2_with (at_builtin; refine append_one rfl (.tmp 24) (.tmp 36) 22 rfl 3 (.int .i64 0) 8 Try.underlying22 info_i7 rfl _ j _ q1 _ _ rfl hrow hO rfl rfl hm1 hm2 ?_)
      intro v2 q2 w5 hrow2 hO5
      have HN5 := Lib.hid (show AllAt w0 (r ++ F) (st k) (j + 1) v2 w5 from ⟨q2, by rw [HX.out]; exact hrow2, hO5⟩)
      clear hrow hrow2 hO hO5 CR HX c0 c1 cx
      go_wp2_with fail
      go_roundw
      case rel => exact ⟨j + 1, by omega, by go_num, HN5⟩
      case measure => simp [intOf]; omega
    · obtain rfl : j = n := by omega
      rw [List.take_of_length_le (by rw [List.length_map, HN.out]; omega)] at hrow
      have HF := Lib.hid (And.intro hrow hO)
      clear hrow hO hOr HIT HRC HC
      go_wp2_with fail
      go_at_call 33
      refine (CR.out).mono ?_
      rintro e w4 ⟨rfl, rfl⟩
      go_wp2_with fail
      go_ret
      exact ⟨_, q1, rfl, HF.out.1, HF.out.2⟩
set_option maxHeartbeats 1600000 in
theorem rd_all_bad (k : Int) (hk : ¬ Good m k) (h : RdAt g m st r) (hO : Owned w0 w (r ++ F)) :
    Calls Try.prog 36 #[.pointer (some ⟨g, 0, none⟩), .int .i64 k] w fun e w' => e = .returned (.slice none 0 0) ∧ w' = w := by
  have CR := rd_row_calls k h hO
  rw [decide_eq_false hk] at CR
  clear h hO hk
  go_enter Try.func36, Try.ntmps36
  go_wp2_with fail
  refine wp_loop_rounds 1 ?_
  rw [rounds_succ]
  go_wp2_with fail
  go_at_call 33
  refine (CR).mono ?_
  rintro e w4 ⟨rfl, rfl⟩
  go_wp2_with fail
  go_ret
  exact ⟨rfl, rfl⟩
theorem rd_all (k : Int) (h : RdAt g m st r) (hm : m ≤ 16) (hlen : ∀ i, i < m → (st i).length ≤ 1000000) (hO : Owned w0 w (r ++ F)) :
    Calls Try.prog 36 #[.pointer (some ⟨g, 0, none⟩), .int .i64 k] w fun e w' => ∃ v q, e = .returned v ∧ Row 3 1 v (rowAt m st k).length (ints ((rowAt m st k).map (·.1))) q ∧ Owned w0 w' (q ++ (r ++ F)) := by
  by_cases hk : Good m k
  · obtain ⟨j, rfl⟩ : ∃ j : Nat, k = (j : Int) := ⟨k.toNat, by have := hk.1; omega⟩
    have hj : j < m := by have := hk.2; omega
    rw [rowAt_nat st hj]
    exact rd_all_good j hj h hm (hlen j hj) hO
  · rw [rowAt_bad st hk]
    refine (rd_all_bad k hk h hO).mono ?_
    rintro e w' ⟨rfl, rfl⟩
    exact ⟨_, [], rfl, Row.nil _ _, hO⟩
theorem rowAt_len (m : Nat) (st : Sts) (k : Int) (hlen : ∀ i, i < m → (st i).length ≤ 1000000) : (rowAt m st k).length ≤ 1000000 := by
  by_cases hk : Good m k
  · obtain ⟨j, rfl⟩ : ∃ j : Nat, k = (j : Int) := ⟨k.toNat, by have := hk.1; omega⟩
    have hj : j < m := by have := hk.2; omega
    rw [rowAt_nat st hj]
    exact hlen j hj
  · rw [rowAt_bad st hk]
    exact Nat.zero_le _
theorem headI_get (l : List (Int × Int)) : headI l = (l.map (·.1)).getD 0 0 := by cases l <;> rfl
theorem lastI_get : ∀ (l : List (Int × Int)), lastI l = (l.map (·.1)).getD (l.length - 1) 0
  | [] => rfl
  | [p] => rfl
  | p :: p2 :: l => by
    have h := lastI_get (p2 :: l)
    have e : lastI (p :: p2 :: l) = lastI (p2 :: l) := rfl
    rw [e, h]
    simp [List.getD]
set_option maxHeartbeats 1600000 in
theorem rd_front (k : Int) (h : RdAt g m st r) (hm : m ≤ 16) (hlen : ∀ i, i < m → (st i).length ≤ 1000000) (hO : Owned w0 w (r ++ F)) :
    Calls Try.prog 37 #[.pointer (some ⟨g, 0, none⟩), .int .i64 k] w fun e w' => e = .returned (.int .i64 (headI (rowAt m st k))) ∧ Owned w0 w' (r ++ F) := by
  have CA := rd_all k h hm hlen hO
  have hl := rowAt_len m st k hlen
  generalize rowAt m st k = l at *
  obtain ⟨n, hn⟩ : ∃ n, l.length = n := ⟨_, rfl⟩
  have hln : (l.map (·.1)).length = n := by rw [List.length_map, hn]
  rw [headI_get]
  obtain ⟨x, hx⟩ : ∃ x, (l.map (·.1)).getD 0 0 = x := ⟨_, rfl⟩
  rw [hx]
  have HX := Lib.hid hx
  clear hx
  have HN := Lib.hid hn
  rw [hn] at CA hl
  clear h hO hn
  go_enter Try.func37, Try.ntmps37
  go_wp2_with fail
  go_at_call 36
  refine (CA).mono ?_
  rintro e w4 ⟨v4, q4, rfl, hrow, hO4⟩
  have hrd := reads_of_row (by rw [hln]; exact hrow) (by omega) hO4
  obtain ⟨-, A, c, hv, hcell⟩ := hrd
  rw [hln] at hv hcell
  have HO := Lib.hid hO4.drop_
  subst hv
  by_cases h0 : n = 0
  · subst h0
    obtain rfl : l = [] := List.eq_nil_of_length_eq_zero HN.out
    obtain rfl : (0 : Int) = x := HX.out
    clear hcell hrow hO4 CA hln
    go_wp2_with fail
    go_ret
    exact ⟨rfl, HO.out⟩
  · obtain ⟨b, o, rfl, hc⟩ := hcell (by omega)
    have cx := hc 0 (by omega)
    rw [Nat.add_zero, HX.out] at cx
    have h1 : decide ((n : Int) = 0) = false := by simp; omega
    have h2 : ((n : Int) == 0) = false := by simp; omega
    have h3 : (0 : Int) < (n : Int) := by omega
    clear hcell hrow hO4 CA hc h0 hln HX
    go_wp2_with fail
    go_ret
    exact ⟨rfl, HO.out⟩
set_option maxHeartbeats 1600000 in
theorem rd_back (k : Int) (h : RdAt g m st r) (hm : m ≤ 16) (hlen : ∀ i, i < m → (st i).length ≤ 1000000) (hO : Owned w0 w (r ++ F)) :
    Calls Try.prog 38 #[.pointer (some ⟨g, 0, none⟩), .int .i64 k] w fun e w' => e = .returned (.int .i64 (lastI (rowAt m st k))) ∧ Owned w0 w' (r ++ F) := by
  have CA := rd_all k h hm hlen hO
  have hl := rowAt_len m st k hlen
  generalize rowAt m st k = l at *
  obtain ⟨n, hn⟩ : ∃ n, l.length = n := ⟨_, rfl⟩
  have hln : (l.map (·.1)).length = n := by rw [List.length_map, hn]
  rw [lastI_get]
  have HN := Lib.hid hn
  rw [hn] at CA hl ⊢
  obtain ⟨x, hx⟩ : ∃ x, (l.map (·.1)).getD (n - 1) 0 = x := ⟨_, rfl⟩
  rw [hx]
  have HX := Lib.hid hx
  clear h hO hn hx
  go_enter Try.func38, Try.ntmps38
  go_wp2_with fail
  go_at_call 36
  refine (CA).mono ?_
  rintro e w4 ⟨v4, q4, rfl, hrow, hO4⟩
  have hrd := reads_of_row (by rw [hln]; exact hrow) (by omega) hO4
  obtain ⟨-, A, c, hv, hcell⟩ := hrd
  rw [hln] at hv hcell
  have HO := Lib.hid hO4.drop_
  subst hv
  by_cases h0 : n = 0
  · subst h0
    obtain rfl : l = [] := List.eq_nil_of_length_eq_zero HN.out
    obtain rfl : (0 : Int) = x := HX.out
    clear hcell hrow hO4 CA hln
    go_wp2_with fail
    go_ret
    exact ⟨rfl, HO.out⟩
  · obtain ⟨b, o, rfl, hc⟩ := hcell (by omega)
    have cx := hc (n - 1) (by omega)
    rw [HX.out] at cx
    obtain ⟨p, rfl⟩ : ∃ p, n = p + 1 := ⟨n - 1, by omega⟩
    rw [Nat.add_sub_cancel] at cx
    have s1 : ((p + 1 : Nat) : Int) - 1 = (p : Int) := by omega
    have s2 : IntKind.i64.wrap (((p + 1 : Nat) : Int) - 1) = (p : Int) := by rw [IntKind.wrap_i64]; omega
    have s3 : IntKind.i64.wrap ((p : Int) + 1 - 1) = (p : Int) := by rw [IntKind.wrap_i64]; omega
    have s5 : (p : Int) + 1 - 1 = (p : Int) := by omega
    have s6 : IntKind.i64.wrap (p : Int) = (p : Int) := by rw [IntKind.wrap_i64]; omega
    have h1 : decide (((p + 1 : Nat) : Int) = 0) = false := by simp; omega
    have h2 : decide ((p : Int) + 1 = 0) = false := by simp; omega
    have u0 : (0 : Int) ≤ (p : Int) := by omega
    have u1 : (p : Int) < (p : Int) + 1 := by omega
    clear hcell hrow hO4 CA hc h0 hln HN HX
    go_wp2_with fail
    go_ret
    exact ⟨rfl, HO.out⟩
set_option maxHeartbeats 1600000 in
theorem rd_len (k : Int) (h : RdAt g m st r) (hm : m ≤ 16) (hlen : ∀ i, i < m → (st i).length ≤ 1000000) (hO : Owned w0 w (r ++ F)) :
    Calls Try.prog 40 #[.pointer (some ⟨g, 0, none⟩), .int .i64 k] w fun e w' => e = .returned (.int .i64 ((rowAt m st k).length : Int)) ∧ Owned w0 w' (r ++ F) := by
  have CA := rd_all k h hm hlen hO
  have hl := rowAt_len m st k hlen
  generalize rowAt m st k = l at *
  obtain ⟨n, hn⟩ : ∃ n, l.length = n := ⟨_, rfl⟩
  rw [hn] at CA hl ⊢
  clear h hO hn
  go_enter Try.func40, Try.ntmps40
  go_wp2_with fail
  go_at_call 36
  refine (CA).mono ?_
  rintro e w4 ⟨v4, q4, rfl, hrow, hO4⟩
  obtain ⟨A, c, rfl⟩ := hrow.slice
  have HO := Lib.hid hO4.drop_
  clear hrow hO4 CA
  go_wp2_with fail
  go_ret
  exact ⟨rfl, HO.out⟩
set_option maxHeartbeats 3200000 in
set_option maxRecDepth 100000 in
theorem rd_weight_good (k : Nat) (hk : k < m) (h : RdAt g m st r) (hm : m ≤ 16) (hlen : (st k).length ≤ 1000000) (hfine : ∀ p ∈ st k, 0 ≤ p.2 ∧ p.2 ≤ 2147483648) (hO : Owned w0 w (r ++ F)) :
    Calls Try.prog 39 #[.pointer (some ⟨g, 0, none⟩), .int .i64 (k : Int)] w fun e w' => e = .returned (.int .i64 (sumW (st k))) ∧ w' = w := by
  have HRC := Lib.hid (by
    have h9 := rd_row_calls (k : Int) h hO
    rw [decide_eq_true (show Good m (k : Int) from ⟨by omega, by omega⟩)] at h9
    exact h9 : Calls Try.prog 33 #[.pointer (some ⟨g, 0, none⟩), .int .i64 (k : Int)] w fun e w' => e = .returned (.bool true) ∧ w' = w)
  obtain ⟨v, q, vs, os, rfl, hI⟩ := h
  obtain ⟨A, c, rfl, hc, hrows⟩ := rd_reads (w0 := w0) (g := g) hI
  obtain ⟨b, rfl, hr⟩ := hrows (by omega)
  obtain ⟨Ai, ci, -, h1, h2⟩ := hr k hk
  have c0 := hc _ _ hO
  have c1 := h1 _ _ hO
  obtain ⟨n, hn⟩ : ∃ n, (st k).length = n := ⟨_, rfl⟩
  have HIT := Lib.hid (show 0 < (st k).length → ∃ bi, Ai = some ⟨bi, 0, none⟩ ∧ ∀ j, j < (st k).length → w.cell? ⟨bi, j * 2 + 1, none⟩ = some (.int .i64 ((st k).getD j (0, 0)).2) from fun hp => by
    obtain ⟨bi, rfl, h3⟩ := h2 hp
    exact ⟨bi, rfl, fun j hj => (h3 _ _ hO j hj).2⟩)
  have HN := Lib.hid hn
  have HFI := Lib.hid hfine
  rw [hn] at hlen c1
  clear hc h1 h2 hr hrows hI hO hn hfine
  go_enter Try.func39, Try.ntmps39
  go_wp2_with fail
  go_loopw [5, 6] (fun x5 x6 wr => ∃ (j : Nat) (y : Int), j ≤ n ∧ 0 ≤ y ∧ y ≤ (j : Int) * 2147483648 ∧ x5 = .int .i64 y ∧ x6 = .int .i64 (j : Int) ∧ wr = w ∧ Hid (sumW ((st k).take j) = y)) (fun _ x6 _ => n - (intOf x6).toNat)
  case atStart => exact ⟨0, 0, Nat.zero_le _, by omega, by omega, rfl, rfl, rfl, Lib.hid rfl⟩
  case round =>
    obtain ⟨j, y, hj, hy0, hy1, rfl, rfl, rfl, hy⟩ := hrel
    by_cases hjn : j < n
    · obtain ⟨bi, rfl, hcell⟩ := HIT.out (by rw [HN.out]; omega)
      have cx := hcell j (by rw [HN.out]; exact hjn)
      have hst := sum_take (st k) (j := j) (by rw [HN.out]; exact hjn)
      have hmem : (st k).getD j (0, 0) ∈ st k := by
        have hj2 : j < (st k).length := by rw [HN.out]; exact hjn
        simp [List.getD, hj2]
      obtain ⟨hz0, hz1⟩ := HFI.out _ hmem
      obtain ⟨z, hz⟩ : ∃ z, ((st k).getD j (0, 0)).2 = z := ⟨_, rfl⟩
      rw [hz] at cx hst hz0 hz1
      rw [hy.out] at hst
      have HST := Lib.hid hst
      have hy2 : y + z ≤ ((j + 1 : Nat) : Int) * 2147483648 := by
        have : ((j + 1 : Nat) : Int) * 2147483648 = (j : Int) * 2147483648 + 2147483648 := by omega
        omega
      have HY2 := Lib.hid hy2
      have hy3 : y ≤ 2147483648000000 := by omega
      clear hcell HIT hmem hz hst hy hy1 hy2 HFI
      go_wp2_with fail
      go_at_call 33
      refine (HRC.out).mono ?_
      rintro e w4 ⟨rfl, rfl⟩
      go_wp2_with fail
      go_roundw
      case rel => exact ⟨j + 1, y + z, by omega, by omega, HY2.out, by go_num, by go_num, trivial, HST⟩
      case measure => simp [intOf]; omega
    · obtain rfl : j = n := by omega
      have hfin : sumW (st k) = y := by
        have := hy.out
        rw [List.take_of_length_le (by rw [HN.out]; omega)] at this
        exact this
      have HFI2 := Lib.hid hfin
      clear hfin hy HIT HFI hy1
      go_wp2_with fail
      go_at_call 33
      refine (HRC.out).mono ?_
      rintro e w4 ⟨rfl, rfl⟩
      go_wp2_with fail
      go_ret
      exact ⟨by rw [HFI2.out]; rfl, rfl⟩
set_option maxHeartbeats 1600000 in
theorem rd_weight_bad (k : Int) (hk : ¬ Good m k) (h : RdAt g m st r) (hO : Owned w0 w (r ++ F)) :
    Calls Try.prog 39 #[.pointer (some ⟨g, 0, none⟩), .int .i64 k] w fun e w' => e = .returned (.int .i64 0) ∧ w' = w := by
  have CR := rd_row_calls k h hO
  rw [decide_eq_false hk] at CR
  clear h hO hk
  go_enter Try.func39, Try.ntmps39
  go_wp2_with fail
  refine wp_loop_rounds 1 ?_
  rw [rounds_succ]
  go_wp2_with fail
  go_at_call 33
  refine (CR).mono ?_
  rintro e w4 ⟨rfl, rfl⟩
  go_wp2_with fail
  go_ret
  exact ⟨rfl, rfl⟩
theorem rd_weight (k : Int) (h : RdAt g m st r) (hm : m ≤ 16) (hlen : ∀ i, i < m → (st i).length ≤ 1000000) (hfine : ∀ i, i < m → ∀ p ∈ st i, 0 ≤ p.2 ∧ p.2 ≤ 2147483648) (hO : Owned w0 w (r ++ F)) :
    Calls Try.prog 39 #[.pointer (some ⟨g, 0, none⟩), .int .i64 k] w fun e w' => e = .returned (.int .i64 (sumW (rowAt m st k))) ∧ Owned w0 w' (r ++ F) := by
  by_cases hk : Good m k
  · obtain ⟨j, rfl⟩ : ∃ j : Nat, k = (j : Int) := ⟨k.toNat, by have := hk.1; omega⟩
    have hj : j < m := by have := hk.2; omega
    rw [rowAt_nat st hj]
    refine (rd_weight_good j hj h hm (hlen j hj) (hfine j hj) hO).mono ?_
    rintro e w' ⟨rfl, rfl⟩
    exact ⟨rfl, hO⟩
  · rw [rowAt_bad st hk]
    refine (rd_weight_bad k hk h hO).mono ?_
    rintro e w' ⟨rfl, rfl⟩
    exact ⟨rfl, hO⟩
end
end Go.Proofs.Ytlnokijfmkldkaa
