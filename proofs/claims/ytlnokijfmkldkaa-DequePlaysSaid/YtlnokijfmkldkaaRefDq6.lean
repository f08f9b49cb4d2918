/- The document's deque: what is refused; Move, Reweigh. -/
import Derived.Test.YtlnokijfmkldkaaRefDq5
namespace Go.Proofs.Ytlnokijfmkldkaa
open Go.RowKit Go.Sep DqPure
set_option linter.unusedSimpArgs false
def Uniq (m : Nat) (st : Sts) : Prop := ∀ i j p q, i < m → j < m → p ∈ st i → q ∈ st j → p.1 = q.1 → i = j ∧ p = q
theorem find_none {m : Nat} {st : Sts} {id a b : Int} (h : FindR m st id a b) (ha : Absent m st id) : a = -1 ∧ b = -1 := by
  rcases of_find h with ⟨-, rfl, rfl, -⟩ | ⟨i, j, -, -, hi, hj, he⟩
  · exact ⟨rfl, rfl⟩
  · exact absurd he (ha i hi _ (by simp [List.getD, hj]))
theorem find_some {m : Nat} {st : Sts} {id a b : Int} (h : FindR m st id a b) (ha : ¬ Absent m st id) : ∃ i j : Nat, a = (i : Int) ∧ b = (j : Int) ∧ i < m ∧ j < (st i).length ∧ ((st i).getD j (0, 0)).1 = id := by
  rcases of_find h with ⟨-, rfl, rfl, h2⟩ | h2
  · exact absurd h2 ha
  · exact h2
section
variable {g m : Nat} {st : Sts} {r F : Own} {w0 w : World}
set_option maxHeartbeats 1600000 in
theorem rd_push_bad {k id x : Int} (h : RdAt g m st r) (hbad : ¬ (Good m k ∧ 1 ≤ id ∧ id ≤ 65536 ∧ Fine x)) (hO : Owned w0 w (r ++ F)) :
    Calls Try.prog 21 #[.pointer (some ⟨g, 0, none⟩), .int .i64 k, .int .i64 id, .int .i64 x] w fun e w' => e = .returned (.int .i64 1) ∧ w' = w := by
  have CR := rd_row_calls k h hO
  have CF := rd_fine (w := w) x
  clear h hO
  by_cases hk : Good m k
  · rw [decide_eq_true hk] at CR
    by_cases h1 : id < 1
    · have d1 : decide (id < 1) = true := by simpa using h1
      clear hbad hk
      go_enter Try.func21, Try.ntmps21
      go_wp2_with fail
      go_at_call 33
      refine (CR).mono ?_
      rintro e w2 ⟨rfl, rfl⟩
      go_wp2_with fail
      go_ret
      exact ⟨rfl, rfl⟩
    · have d1 : decide (id < 1) = false := by simpa using h1
      by_cases h2 : 65536 < id
      · have d2 : decide (65536 < id) = true := by simpa using h2
        clear hbad hk
        go_enter Try.func21, Try.ntmps21
        go_wp2_with fail
        go_at_call 33
        refine (CR).mono ?_
        rintro e w2 ⟨rfl, rfl⟩
        go_wp2_with fail
        go_ret
        exact ⟨rfl, rfl⟩
      · have d2 : decide (65536 < id) = false := by simpa using h2
        have hx : ¬ Fine x := fun hx => hbad ⟨hk, by omega, by omega, hx⟩
        rw [decide_eq_false hx] at CF
        clear hbad hk hx
        go_enter Try.func21, Try.ntmps21
        go_wp2_with fail
        go_at_call 33
        refine (CR).mono ?_
        rintro e w2 ⟨rfl, rfl⟩
        go_wp2_with fail
        go_at_call 34
        refine (CF).mono ?_
        rintro e w2 ⟨rfl, rfl⟩
        go_wp2_with fail
        go_ret
        exact ⟨rfl, rfl⟩
  · rw [decide_eq_false hk] at CR
    clear hbad hk
    go_enter Try.func21, Try.ntmps21
    go_wp2_with fail
    go_at_call 33
    refine (CR).mono ?_
    rintro e w2 ⟨rfl, rfl⟩
    go_wp2_with fail
    go_ret
    exact ⟨rfl, rfl⟩
set_option maxHeartbeats 1600000 in
theorem rd_push_dup {k id x : Int} (h : RdAt g m st r) (hm : m ≤ 16) (hlen : ∀ i, i < m → (st i).length ≤ 1000000) (hg : Good m k ∧ 1 ≤ id ∧ id ≤ 65536 ∧ Fine x) (ha : ¬ Absent m st id) (hO : Owned w0 w (r ++ F)) :
    Calls Try.prog 21 #[.pointer (some ⟨g, 0, none⟩), .int .i64 k, .int .i64 id, .int .i64 x] w fun e w' => e = .returned (.int .i64 5) ∧ w' = w := by
  have CR := rd_row_calls k h hO
  rw [decide_eq_true hg.1] at CR
  have CF := rd_fine (w := w) x
  rw [decide_eq_true hg.2.2.2] at CF
  have CN := rd_find id h hm hlen hO
  have d1 : decide (id < 1) = false := by have := hg.2.1; simp; omega
  have d2 : decide (65536 < id) = false := by have := hg.2.2.1; simp; omega
  clear h hO hg hlen
  go_enter Try.func21, Try.ntmps21
  go_wp2_with fail
  go_at_call 33
  refine (CR).mono ?_
  rintro e w2 ⟨rfl, rfl⟩
  go_wp2_with fail
  go_at_call 34
  refine (CF).mono ?_
  rintro e w2 ⟨rfl, rfl⟩
  go_wp2_with fail
  go_at_call 35
  refine (CN).mono ?_
  rintro e w2 ⟨a1, b1, rfl, hF, rfl⟩
  obtain ⟨i, j, rfl, rfl, -, -, -⟩ := find_some hF ha
  clear hF ha CN CR CF
  go_wp2_with fail
  go_ret
  exact ⟨rfl, rfl⟩
set_option maxHeartbeats 1600000 in
theorem rd_unlink_none {id : Int} (h : RdAt g m st r) (hm : m ≤ 16) (hlen : ∀ i, i < m → (st i).length ≤ 1000000) (ha : Absent m st id) (hO : Owned w0 w (r ++ F)) :
    Calls Try.prog 22 #[.pointer (some ⟨g, 0, none⟩), .int .i64 id] w fun e w' => e = .returned (.int .i64 3) ∧ w' = w := by
  have CN := rd_find id h hm hlen hO
  clear h hO hlen
  go_enter Try.func22, Try.ntmps22
  go_wp2_with fail
  go_at_call 35
  refine (CN).mono ?_
  rintro e w2 ⟨a1, b1, rfl, hF, rfl⟩
  obtain ⟨rfl, rfl⟩ := find_none hF ha
  clear hF ha CN
  go_wp2_with fail
  go_ret
  exact ⟨rfl, rfl⟩
set_option maxHeartbeats 1600000 in
theorem rd_move_none {id k : Int} (h : RdAt g m st r) (hm : m ≤ 16) (hlen : ∀ i, i < m → (st i).length ≤ 1000000) (ha : Absent m st id) (hO : Owned w0 w (r ++ F)) :
    Calls Try.prog 23 #[.pointer (some ⟨g, 0, none⟩), .int .i64 id, .int .i64 k] w fun e w' => e = .returned (.int .i64 3) ∧ w' = w := by
  have CN := rd_find id h hm hlen hO
  clear h hO hlen
  go_enter Try.func23, Try.ntmps23
  go_wp2_with fail
  go_at_call 35
  refine (CN).mono ?_
  rintro e w2 ⟨a1, b1, rfl, hF, rfl⟩
  obtain ⟨rfl, rfl⟩ := find_none hF ha
  clear hF ha CN
  go_wp2_with fail
  go_ret
  exact ⟨rfl, rfl⟩
set_option maxHeartbeats 1600000 in
theorem rd_move_bad {id k : Int} (h : RdAt g m st r) (hm : m ≤ 16) (hlen : ∀ i, i < m → (st i).length ≤ 1000000) (ha : ¬ Absent m st id) (hk : ¬ Good m k) (hO : Owned w0 w (r ++ F)) :
    Calls Try.prog 23 #[.pointer (some ⟨g, 0, none⟩), .int .i64 id, .int .i64 k] w fun e w' => e = .returned (.int .i64 1) ∧ w' = w := by
  have CN := rd_find id h hm hlen hO
  have CR := rd_row_calls k h hO
  rw [decide_eq_false hk] at CR
  clear h hO hlen hk
  go_enter Try.func23, Try.ntmps23
  go_wp2_with fail
  go_at_call 35
  refine (CN).mono ?_
  rintro e w2 ⟨a1, b1, rfl, hF, rfl⟩
  obtain ⟨i, j, rfl, rfl, -, -, -⟩ := find_some hF ha
  clear hF ha CN
  go_wp2_with fail
  go_at_call 33
  refine (CR).mono ?_
  rintro e w2 ⟨rfl, rfl⟩
  go_wp2_with fail
  go_ret
  exact ⟨rfl, rfl⟩
set_option maxHeartbeats 1600000 in
theorem rd_reweigh_none {id x : Int} (h : RdAt g m st r) (hm : m ≤ 16) (hlen : ∀ i, i < m → (st i).length ≤ 1000000) (ha : Absent m st id) (hO : Owned w0 w (r ++ F)) :
    Calls Try.prog 25 #[.pointer (some ⟨g, 0, none⟩), .int .i64 id, .int .i64 x] w fun e w' => e = .returned (.int .i64 3) ∧ w' = w := by
  have CN := rd_find id h hm hlen hO
  clear h hO hlen
  go_enter Try.func25, Try.ntmps25
  go_wp2_with fail
  go_at_call 35
  refine (CN).mono ?_
  rintro e w2 ⟨a1, b1, rfl, hF, rfl⟩
  obtain ⟨rfl, rfl⟩ := find_none hF ha
  clear hF ha CN
  go_wp2_with fail
  go_ret
  exact ⟨rfl, rfl⟩
set_option maxHeartbeats 1600000 in
theorem rd_reweigh_bad {id x : Int} (h : RdAt g m st r) (hm : m ≤ 16) (hlen : ∀ i, i < m → (st i).length ≤ 1000000) (ha : ¬ Absent m st id) (hx : ¬ Fine x) (hO : Owned w0 w (r ++ F)) :
    Calls Try.prog 25 #[.pointer (some ⟨g, 0, none⟩), .int .i64 id, .int .i64 x] w fun e w' => e = .returned (.int .i64 1) ∧ w' = w := by
  have CN := rd_find id h hm hlen hO
  have CF := rd_fine (w := w) x
  rw [decide_eq_false hx] at CF
  clear h hO hlen hx
  go_enter Try.func25, Try.ntmps25
  go_wp2_with fail
  go_at_call 35
  refine (CN).mono ?_
  rintro e w2 ⟨a1, b1, rfl, hF, rfl⟩
  obtain ⟨i, j, rfl, rfl, -, -, -⟩ := find_some hF ha
  clear hF ha CN
  go_wp2_with fail
  go_at_call 34
  refine (CF).mono ?_
  rintro e w2 ⟨rfl, rfl⟩
  go_wp2_with fail
  go_ret
  exact ⟨rfl, rfl⟩
set_option maxHeartbeats 6400000 in
set_option maxRecDepth 100000 in
theorem rd_move_some {id : Int} {k : Nat} (h : RdAt g m st r) (hm : m ≤ 16) (hlen : ∀ i, i < m → (st i).length ≤ 1000000) (hu : Uniq m st) (hk : k < m) (ha : ¬ Absent m st id) (hO : Owned w0 w (r ++ F)) :
    Calls Try.prog 23 #[.pointer (some ⟨g, 0, none⟩), .int .i64 id, .int .i64 (k : Int)] w fun e w' => e = .returned (.int .i64 0) ∧ ∃ i xs z ys r', i < m ∧ st i = xs ++ (id, z) :: ys ∧ RdAt g m (updS (updS st i (xs ++ ys)) k (updS st i (xs ++ ys) k ++ [(id, z)])) r' ∧ Owned w0 w' (r' ++ F) := by
  have CN := rd_find id h hm hlen hO
  have CR := rd_row_calls (k : Int) h hO
  rw [decide_eq_true (show Good m (k : Int) from ⟨by omega, by omega⟩)] at CR
  have CU := Lib.hid (rd_unlink_some h hm hlen hO ha)
  obtain ⟨v, q, vs, os, rfl, hI⟩ := h
  obtain ⟨A, c, hv, hc, hrows⟩ := rd_reads (w0 := w0) (g := g) hI
  have t0 := hc _ _ hO
  have HLEN := Lib.hid hlen
  have HU := Lib.hid hu
  go_enter Try.func23, Try.ntmps23
  go_wp2_with fail
  go_at_call 35
  refine (CN).mono ?_
  rintro e w2 ⟨a1, b1, rfl, hF, rfl⟩
  obtain ⟨i, j, rfl, rfl, hi, hj, he⟩ := find_some hF ha
  obtain ⟨b, rfl, hr⟩ := hrows (by omega)
  obtain ⟨Ai, ci, hvi, h1, hit⟩ := hr i hi
  obtain ⟨bi, rfl, hcell⟩ := hit (by omega)
  have t1 := h1 _ _ hO
  have t2 := (hcell _ _ hO j hj).2
  have hmem : (st i).getD j (0, 0) ∈ st i := by simp [List.getD, hj]
  obtain ⟨z, hz⟩ : ∃ z, ((st i).getD j (0, 0)).2 = z := ⟨_, rfl⟩
  rw [hz] at t2
  have hli := hlen i hi
  have HM := Lib.hid (And.intro hmem (And.intro he hz))
  obtain ⟨n, hn⟩ : ∃ n, (st i).length = n := ⟨_, rfl⟩
  rw [hn] at t1 hj hli
  clear hF CN hI hv hc hrows hr h1 hit hcell hO hmem he hz hn hu ha hlen hvi
  go_wp2_with fail
  go_at_call 33
  refine (CR).mono ?_
  rintro e w2 ⟨rfl, rfl⟩
  go_wp2_with fail
  go_at_call 22
  refine (CU.out).mono ?_
  rintro e w3 ⟨rfl, i2, xs, z2, ys, r2, hi2, hs2, hr2, hO2⟩
  have hz2 : i2 = i ∧ z2 = z := by
    have h5 := HU.out i2 i (id, z2) ((st i).getD j (0, 0)) hi2 hi (by rw [hs2]; simp) HM.out.1 HM.out.2.1.symm
    exact ⟨h5.1, by rw [← HM.out.2.2, ← h5.2]⟩
  obtain ⟨rfl, rfl⟩ := hz2
  have hs9 := Lib.hid hs2
  have hlk : (updS st i2 (xs ++ ys) k).length ≤ 1000000 := by
    by_cases e : k = i2
    · subst e
      rw [updS_same]
      have h7 := HLEN.out k hk
      rw [hs2, List.length_append, List.length_cons] at h7
      rw [List.length_append]
      omega
    · rw [updS_ne _ _ e]
      exact HLEN.out k hk
  clear hs2 CU CR HU HM t0 t1 t2 HLEN
  obtain ⟨st2, hst2⟩ : ∃ s, updS st i2 (xs ++ ys) = s := ⟨_, rfl⟩
  rw [hst2] at hr2 hlk
  have HST := Lib.hid hst2
  clear hst2
  obtain ⟨v, q, vs, os, rfl, hI⟩ := hr2
  obtain ⟨A, c, hv, hc, hrows⟩ := rd_reads (w0 := w0) (g := g) hI
  obtain ⟨b, rfl, hr⟩ := hrows (by omega)
  obtain ⟨Ak, ck, hvk, h1, -⟩ := hr k hk
  obtain ⟨n, hn⟩ : ∃ n, (st2 k).length = n := ⟨_, rfl⟩
  have hrow := hI.rows k hk
  rw [hvk] at hrow
  rw [hn] at h1 hlk hrow
  have hm1 : n + 1 ≤ maxLen := by unfold maxLen; omega
  have hm2 : (n + 1) * 16 ≤ 140737488355328 := by omega
  have hOd := hO2.drew
  have t0 := hc _ _ hOd
  have t1 := h1 _ _ hOd
  have HH := Lib.hid (And.intro hI (And.intro hv (And.intro hvk hn)))
  have HO := Lib.hid (rd_focus (k := k) hk hOd)
  have HC := Lib.hid hc
  have H1 := Lib.hid h1
  clear hI hc hrows hr h1 hvk hO2 hOd hn hv
  go_wp2_with fail
  refine wp_region_pop (S := fun w' => w'.cell? ⟨g, 0, none⟩ = some (.slice (some ⟨b, 0, none⟩) m c) ∧ w'.cell? ⟨b, k, none⟩ = some (.slice Ak n ck)) 18 _ rfl (by kernel_rfl) (by kernel_rfl) ⟨t0, t1⟩ (fun hHeld => ?_)
  simp only [List.take_succ_cons, List.take_zero]
  refine wpAnyH_take (i := 0) (oi := _) (v := ?_) (by simp only [List.getElem?_toArray, List.getElem?_cons_succ, List.getElem?_cons_zero]; exact rfl) (by kernel_rfl) (by kernel_rfl) (by kernel_rfl) (by intro _ _ _ h; exact h) (Or.inl ⟨by rfl, ?_⟩) (by assumption) ?_
  rotate_left
  · intro w hSw; (try dsimp only at hSw); go_simp; (try with_reducible rfl)
  try simp only [Act.put, List.setIfInBounds_toArray, List.set_cons_zero, List.set_cons_succ]
  refine wpAnyH_take (i := 1) (oi := _) (v := ?_) (by simp only [List.getElem?_toArray, List.getElem?_cons_succ, List.getElem?_cons_zero]; exact rfl) (by kernel_rfl) (by kernel_rfl) (by kernel_rfl) (by intro _ _ _ h; exact h) (Or.inl ⟨by rfl, ?_⟩) (by assumption) ?_
  rotate_left
  · intro w hSw; (try dsimp only at hSw); go_simp; (try with_reducible rfl)
  try simp only [Act.put, List.setIfInBounds_toArray, List.set_cons_zero, List.set_cons_succ]
  refine wpAnyH_take (i := 2) (oi := _) (v := ?_) (by simp only [List.getElem?_toArray, List.getElem?_cons_succ, List.getElem?_cons_zero]; exact rfl) (by kernel_rfl) (by kernel_rfl) (by kernel_rfl) (by intro _ _ _ h; exact h) (Or.inl ⟨by rfl, ?_⟩) (by assumption) ?_
  rotate_left
  · intro w hSw; (try dsimp only at hSw); go_simp; (try with_reducible rfl)
  try simp only [Act.put, List.setIfInBounds_toArray, List.set_cons_zero, List.set_cons_succ]
  refine wpAnyH_take (i := 3) (oi := _) (v := ?_) (by simp only [List.getElem?_toArray, List.getElem?_cons_succ, List.getElem?_cons_zero]; exact rfl) (by kernel_rfl) (by kernel_rfl) (by kernel_rfl) (by intro _ _ _ h; exact h) (Or.inl ⟨by rfl, ?_⟩) (by assumption) ?_
  rotate_left
  · intro w hSw; (try dsimp only at hSw); go_simp; (try with_reducible rfl)
  try simp only [Act.put, List.setIfInBounds_toArray, List.set_cons_zero, List.set_cons_succ]
  refine wpAnyH_take (i := 4) (oi := _) (v := ?_) (by simp only [List.getElem?_toArray, List.getElem?_cons_succ, List.getElem?_cons_zero]; exact rfl) (by kernel_rfl) (by kernel_rfl) (by kernel_rfl) (by intro _ _ _ h; exact h) (Or.inl ⟨by rfl, ?_⟩) (by assumption) ?_
  rotate_left
  · intro w hSw; (try dsimp only at hSw); go_simp; (try with_reducible rfl)
  try simp only [Act.put, List.setIfInBounds_toArray, List.set_cons_zero, List.set_cons_succ]
  refine wpAnyH_take (i := 5) (oi := _) (v := ?_) (by simp only [List.getElem?_toArray, List.getElem?_cons_succ, List.getElem?_cons_zero]; exact rfl) (by kernel_rfl) (by kernel_rfl) (by kernel_rfl) (by intro _ _ _ h; exact h) (Or.inl ⟨by rfl, ?_⟩) (by assumption) ?_
  rotate_left
  · intro w hSw; (try dsimp only at hSw); go_simp; (try with_reducible rfl)
  try simp only [Act.put, List.setIfInBounds_toArray, List.set_cons_zero, List.set_cons_succ]
  refine wpAnyH_take (i := 6) (oi := _) (v := ?_) (by simp only [List.getElem?_toArray, List.getElem?_cons_succ, List.getElem?_cons_zero]; exact rfl) (by kernel_rfl) (by kernel_rfl) (by kernel_rfl) (by intro _ _ _ h; exact h) (Or.inl ⟨by rfl, ?_⟩) (by assumption) ?_
  rotate_left
  · intro w hSw; (try dsimp only at hSw); go_simp; (try with_reducible rfl)
  try simp only [Act.put, List.setIfInBounds_toArray, List.set_cons_zero, List.set_cons_succ]
  refine wpAnyH_take (i := 7) (oi := _) (v := ?_) (by simp only [List.getElem?_toArray, List.getElem?_cons_succ, List.getElem?_cons_zero]; exact rfl) (by kernel_rfl) (by kernel_rfl) (by kernel_rfl) (by intro _ _ _ h; exact h) (Or.inl ⟨by rfl, ?_⟩) (by assumption) ?_
  rotate_left
  · intro w hSw; (try dsimp only at hSw); go_simp; (try with_reducible rfl)
  try simp only [Act.put, List.setIfInBounds_toArray, List.set_cons_zero, List.set_cons_succ]
  refine wpAnyH_take (i := 8) (oi := _) (v := ?_) (by simp only [List.getElem?_toArray, List.getElem?_cons_succ, List.getElem?_cons_zero]; exact rfl) (by kernel_rfl) (by kernel_rfl) (by kernel_rfl) (by intro _ _ _ h; exact h) (Or.inl ⟨by rfl, ?_⟩) (by assumption) ?_
  rotate_left
  · intro w hSw; (try dsimp only at hSw); go_simp; (try with_reducible rfl)
  try simp only [Act.put, List.setIfInBounds_toArray, List.set_cons_zero, List.set_cons_succ]
  refine wpAnyH_take (i := 9) (oi := _) (v := ?_) (by simp only [List.getElem?_toArray, List.getElem?_cons_succ, List.getElem?_cons_zero]; exact rfl) (by kernel_rfl) (by kernel_rfl) (by kernel_rfl) (by intro _ _ _ h; exact h) (Or.inl ⟨by rfl, ?_⟩) (by assumption) ?_
  rotate_left
  · intro w hSw; (try dsimp only at hSw); go_simp; (try with_reducible rfl)
  try simp only [Act.put, List.setIfInBounds_toArray, List.set_cons_zero, List.set_cons_succ]
  refine wpAnyH_take (i := 10) (oi := _) (v := ?_) (by simp only [List.getElem?_toArray, List.getElem?_cons_succ, List.getElem?_cons_zero]; exact rfl) (by kernel_rfl) (by kernel_rfl) (by kernel_rfl) (by intro _ _ _ h; exact h) (Or.inl ⟨by rfl, ?_⟩) (by assumption) ?_
  rotate_left
  · intro w hSw; (try dsimp only at hSw); go_simp; (try with_reducible rfl)
  try simp only [Act.put, List.setIfInBounds_toArray, List.set_cons_zero, List.set_cons_succ]
  refine wpAnyH_take (i := 11) (oi := _) (v := ?_) (by simp only [List.getElem?_toArray, List.getElem?_cons_succ, List.getElem?_cons_zero]; exact rfl) (by kernel_rfl) (by kernel_rfl) (by kernel_rfl) (by intro _ _ _ h; exact h) (Or.inl ⟨by rfl, ?_⟩) (by assumption) ?_
  rotate_left
  · intro w hSw; (try dsimp only at hSw); go_simp; (try with_reducible rfl)
  try simp only [Act.put, List.setIfInBounds_toArray, List.set_cons_zero, List.set_cons_succ]
  refine wpAnyH_take (i := 12) (oi := _) (v := ?_) (by simp only [List.getElem?_toArray, List.getElem?_cons_succ, List.getElem?_cons_zero]; exact rfl) (by kernel_rfl) (by kernel_rfl) (by kernel_rfl) (by intro _ _ _ h; exact h) (Or.inl ⟨by rfl, ?_⟩) (by assumption) ?_
  rotate_left
  · intro w hSw; (try dsimp only at hSw); go_simp; (try with_reducible rfl)
  try simp only [Act.put, List.setIfInBounds_toArray, List.set_cons_zero, List.set_cons_succ]
  refine wpAnyH_take (i := 13) (oi := _) (v := ?_) (by simp only [List.getElem?_toArray, List.getElem?_cons_succ, List.getElem?_cons_zero]; exact rfl) (by kernel_rfl) (by kernel_rfl) (by kernel_rfl) (by intro _ _ _ h; exact h) (Or.inl ⟨by rfl, ?_⟩) (by assumption) ?_
  rotate_left
  · intro w hSw; (try dsimp only at hSw); go_simp; (try with_reducible rfl)
  try simp only [Act.put, List.setIfInBounds_toArray, List.set_cons_zero, List.set_cons_succ]
  refine wpAnyH_take (i := 14) (oi := _) (v := ?_) (by simp only [List.getElem?_toArray, List.getElem?_cons_succ, List.getElem?_cons_zero]; exact rfl) (by kernel_rfl) (by kernel_rfl) (by kernel_rfl) (by intro _ _ _ h; exact h) (Or.inl ⟨by rfl, ?_⟩) (by assumption) ?_
  rotate_left
  · intro w hSw; (try dsimp only at hSw); go_simp; (try with_reducible rfl)
  try simp only [Act.put, List.setIfInBounds_toArray, List.set_cons_zero, List.set_cons_succ]
  refine wpAnyH_ready (rs := [15]) (by kernel_rfl) (by simp) (AllReadyH.cons (o := _) rfl (fun K hK => ?_) AllReadyH.nil)
  go_simp
  have HO1 := Lib.hid (HO.out.alloc_ (.cells #[.int .i64 id, .int .i64 z2] 68))
  have t2 := HC.out _ _ (HO1.out.perm (rd_out_perm _ _ _ _ _ _ _ hk).symm)
  have t3 := H1.out _ _ (HO1.out.perm (rd_out_perm _ _ _ _ _ _ _ hk).symm)
  refine hK.out _ _ ⟨t2, t3⟩ (fun hHeld => ?_)
  clear hK K
  try simp only [Act.put, List.setIfInBounds_toArray, List.set_cons_zero, List.set_cons_succ]
  refine wpAnyH_ready (rs := [16]) (by kernel_rfl) (by simp) (AllReadyH.cons (o := _) rfl (fun K hK => ?_) AllReadyH.nil)
  refine step_append_row rfl (.tmp 47) (.tmp 51) 66 rfl 68 (.agg #[.int .i64 0, .int .i64 0]) 2 16 Try.underlying66 info_item rfl (by decide) (.slice Ak n ck) n (itemsV (st2 k)) (os k) _ rfl hrow HO1.out ⟨w3.drew.heap.size, 0, none⟩ 1 1 [.int .i64 id, .int .i64 z2] rfl rfl (cell_two_new _ _ _ _) (by simp [Value.oneCell']) (by omega) hm1 hm2 ?_
  intro gg cap r9 w6 hrow2 hO6
  obtain ⟨hI, hv, hvk, hn⟩ := HH.out
  have hrow3 : Row 68 2 (.slice (some ⟨gg, 0, none⟩) (n + 1) cap) (st2 k ++ [(id, z2)]).length (itemsV (st2 k ++ [(id, z2)])) r9 := by
    rw [List.length_append, hn, itemsV_append]
    exact hrow2
  obtain ⟨c6, f6, hw⟩ := rd_write hI hk hv hrow3 hO6
  rw [hvk, hn] at c6
  have c7 : w6.cell? ⟨g, 0, none⟩ = some (.slice (some ⟨b, 0, none⟩) m c) := by rw [← hv]; exact (Owned.cell (hO6.perm List.perm_middle) 0).trans rfl
  have HW := Lib.hid hw
  refine hK.out _ _ ⟨c7, c6⟩ (fun hHeld => ?_)
  clear hK K hI hv hvk hn hrow3 hrow2 hO6 hw hrow t0 t1 t2 t3 HH
  try simp only [Act.put, List.setIfInBounds_toArray, List.set_cons_zero, List.set_cons_succ]
  refine wpAnyH_take (i := 17) (oi := _) (v := ?_) (by simp only [List.getElem?_toArray, List.getElem?_cons_succ, List.getElem?_cons_zero]; exact rfl) (by kernel_rfl) (by kernel_rfl) (by kernel_rfl) (by intro _ _ _ h; exact h) (Or.inl ⟨by rfl, ?_⟩) (by assumption) ?_
  rotate_left
  · intro w hSw; (try dsimp only at hSw); go_simp; (try with_reducible rfl)
  try simp only [Act.put, List.setIfInBounds_toArray, List.set_cons_zero, List.set_cons_succ]
  refine wpAnyH_done (by kernel_rfl) ?_ _
  unfold popQ
  go_simp
  go_wp2_with fail
  go_ret
  obtain ⟨r', hr', hO'⟩ := HW.out
  have h10 := HST.out
  subst h10
  exact ⟨rfl, _, xs, _, ys, r', hi2, hs9.out, hr', hO'⟩
end
end Go.Proofs.Ytlnokijfmkldkaa
