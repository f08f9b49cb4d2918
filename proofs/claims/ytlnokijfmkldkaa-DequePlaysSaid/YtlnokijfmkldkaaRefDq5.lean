/- The document's deque: Unlink, Move, Reweigh. -/
import Derived.Test.YtlnokijfmkldkaaRefDq4
namespace Go.Proofs.Ytlnokijfmkldkaa
open Go.RowKit Go.Sep DqPure
set_option linter.unusedSimpArgs false
theorem row_cells {e : TypeId} {size n c b : Nat} {xs : List Value} {o X : Own} {w0 W : World} (h : Row e size (.slice (some ⟨b, 0, none⟩) n c) n xs o) (hO : Owned w0 W (o ++ X)) : ∀ (t : Nat) (u : Value), xs[t]? = some u → W.cell? ⟨b, t, none⟩ = some u := by
  intro t u ht
  obtain ⟨hl, hc⟩ := h
  rcases hc with ⟨h0, -, -⟩ | ⟨b2, cap, cur, h0, rfl, h1, h2, h3, h4⟩
  · injection h0 with h0 _ _
    cases h0
  · injection h0 with h0 _ _
    injection h0 with h0
    injection h0 with h0 _
    subst h0
    refine (Owned.cell hO t).trans ?_
    rw [← h4, List.getElem?_take] at ht
    split at ht
    · simpa using ht
    · cases ht
theorem itemsV_split (l : List (Int × Int)) (j : Nat) : itemsV l = itemsV (l.take j) ++ itemsV (l.drop j) := by rw [← itemsV_append, List.take_append_drop]
theorem itemsV_take {l : List (Int × Int)} {j t : Nat} {u : Value} (h : (itemsV (l.take j))[t]? = some u) : (itemsV l)[t]? = some u := by
  rw [itemsV_split l j, List.getElem?_append_left (List.getElem?_eq_some_iff.1 h).1]
  exact h
theorem itemsV_drop {l : List (Int × Int)} {j t : Nat} {u : Value} (h : (itemsV (l.drop j))[t]? = some u) : (itemsV l)[j * 2 + t]? = some u := by
  have hlt := (List.getElem?_eq_some_iff.1 h).1
  rw [itemsV_len, List.length_drop] at hlt
  have e : (itemsV (l.take j)).length = j * 2 := by rw [itemsV_len, List.length_take, Nat.min_eq_left (by omega)]
  rw [itemsV_split l j, List.getElem?_append_right (by omega), e, Nat.add_sub_cancel_left]
  exact h
section
variable {g m : Nat} {st : Sts} {r F : Own} {w0 w : World}
set_option maxHeartbeats 6400000 in
set_option maxRecDepth 100000 in
theorem rd_unlink_some {id : Int} (h : RdAt g m st r) (hm : m ≤ 16) (hlen : ∀ i, i < m → (st i).length ≤ 1000000) (hO : Owned w0 w (r ++ F)) (hno : ¬ Absent m st id) :
    Calls Try.prog 22 #[.pointer (some ⟨g, 0, none⟩), .int .i64 id] w fun e w' => e = .returned (.int .i64 0) ∧ ∃ i xs z ys r', i < m ∧ st i = xs ++ (id, z) :: ys ∧ RdAt g m (updS st i (xs ++ ys)) r' ∧ Owned w0 w' (r' ++ F) := by
  have CN := rd_find id h hm hlen hO
  obtain ⟨v, q, vs, os, rfl, hI⟩ := h
  obtain ⟨A, c, hv, hc, hrows⟩ := rd_reads (w0 := w0) (g := g) hI
  go_enter Try.func22, Try.ntmps22
  go_wp2_with fail
  go_at_call 35
  refine (CN).mono ?_
  rintro e w2 ⟨a1, b1, rfl, hF, rfl⟩
  rcases of_find hF with ⟨-, rfl, rfl, h2⟩ | ⟨i, j, rfl, rfl, hi, hj, he⟩
  · exact absurd h2 hno
  · obtain ⟨b, rfl, hr⟩ := hrows (by omega)
    obtain ⟨Ai, ci, hvi, h1, hit⟩ := hr i hi
    obtain ⟨bi, rfl, hcell⟩ := hit (by omega)
    have hs := split_at (st i) hj he
    have hli := hlen i hi
    have hrow := hI.rows i hi
    have hcap : (st i).length ≤ ci := by
      rw [hvi] at hrow
      rcases hrow.2 with ⟨h0, -, -⟩ | ⟨b2, cap, cur, h0, -, e1, -⟩
      · injection h0 with h0 _ _
        cases h0
      · injection h0 with _ _ h0
        omega
    have hOd := hO.drew
    have t0 := hc _ _ hOd
    have t1 := h1 _ _ hOd
    obtain ⟨n, hn⟩ : ∃ n, (st i).length = n := ⟨_, rfl⟩
    rw [hn] at t1 hcap hj hli
    have HH := Lib.hid (And.intro hI (And.intro hv (And.intro hvi (And.intro hn hs))))
    have HO := Lib.hid (rd_focus (k := i) hi hOd)
    have HCELL := Lib.hid hcell
    have HC := Lib.hid hc
    have H1 := Lib.hid h1
    have k1 : ((j : Nat) : Int) ≤ (ci : Int) := by omega
    have k2 : (0 : Int) ≤ ((j : Nat) : Int) := by omega
    have k3 : ((j : Nat) : Int) + 1 ≤ (n : Int) := by omega
    have k4 : (n : Int) ≤ (ci : Int) := by omega
    have k5 : IntKind.i64.wrap ((j : Int) + 1) = (j : Int) + 1 := by rw [IntKind.wrap_i64]; omega
    have k6 : (0 : Int) ≤ (j : Int) + 1 := by omega
    clear hF CN hI hv hc hrows hr h1 hit hcell hs he hrow hO hOd hn hvi hlen hno
    go_wp2_with fail
    refine wp_region_pop (S := fun w' => w'.cell? ⟨g, 0, none⟩ = some (.slice (some ⟨b, 0, none⟩) m c) ∧ w'.cell? ⟨b, i, none⟩ = some (.slice (some ⟨bi, 0, none⟩) n ci)) 28 _ rfl (by kernel_rfl) (by kernel_rfl) ⟨t0, t1⟩ (fun hHeld => ?_)
    simp only [List.take_succ_cons, List.take_zero]
    refine wpAnyH_take (i := 0) (oi := _) (v := ?_) (by simp only [List.getElem?_toArray, List.getElem?_cons_succ, List.getElem?_cons_zero]; exact rfl) (by kernel_rfl) (by kernel_rfl) (by kernel_rfl) (by intro _ _ _ h; exact h) (Or.inl ⟨by rfl, ?_⟩) (by assumption) ?_
    rotate_left
    · intro w hSw; (try dsimp only at hSw); go_simp; (try with_reducible rfl)
    try simp only [Act.put, List.setIfInBounds_toArray, List.set_cons_zero, List.set_cons_succ]
    refine wpAnyH_take (i := 1) (oi := _) (v := ?_) (by simp only [List.getElem?_toArray, List.getElem?_cons_succ, List.getElem?_cons_zero]; exact rfl) (by kernel_rfl) (by kernel_rfl) (by kernel_rfl) (by intro _ _ _ h; exact h) (Or.inl ⟨by rfl, ?_⟩) (by assumption) ?_
    rotate_left
    · intro w hSw; (try dsimp only at hSw); go_simp; (try with_reducible rfl)
    try simp only [Act.put, List.setIfInBounds_toArray, List.set_cons_zero, List.set_cons_succ]
    refine wpAnyH_take (i := 2) (oi := _) (v := ?_) (by simp only [List.getElem?_toArray, List.getElem?_cons_succ, List.getElem?_cons_zero]; exact rfl) (by kernel_rfl) (by kernel_rfl) (by kernel_rfl) (by intro _ _ _ h; exact h) (Or.inl ⟨by rfl, ?_⟩) (by assumption) ?_
    rotate_left
    · intro w hSw; (try dsimp only at hSw); go_simp; (try with_reducible rfl)
    try simp only [Act.put, List.setIfInBounds_toArray, List.set_cons_zero, List.set_cons_succ]
    refine wpAnyH_take (i := 3) (oi := _) (v := ?_) (by simp only [List.getElem?_toArray, List.getElem?_cons_succ, List.getElem?_cons_zero]; exact rfl) (by kernel_rfl) (by kernel_rfl) (by kernel_rfl) (by intro _ _ _ h; exact h) (Or.inl ⟨by rfl, ?_⟩) (by assumption) ?_
    rotate_left
    · intro w hSw; (try dsimp only at hSw); go_simp; (try with_reducible rfl)
    try simp only [Act.put, List.setIfInBounds_toArray, List.set_cons_zero, List.set_cons_succ]
    refine wpAnyH_take (i := 4) (oi := _) (v := ?_) (by simp only [List.getElem?_toArray, List.getElem?_cons_succ, List.getElem?_cons_zero]; exact rfl) (by kernel_rfl) (by kernel_rfl) (by kernel_rfl) (by intro _ _ _ h; exact h) (Or.inl ⟨by rfl, ?_⟩) (by assumption) ?_
    rotate_left
    · intro w hSw; (try dsimp only at hSw); go_simp; (try with_reducible rfl)
    try simp only [Act.put, List.setIfInBounds_toArray, List.set_cons_zero, List.set_cons_succ]
    refine wpAnyH_take (i := 6) (oi := _) (v := ?_) (by simp only [List.getElem?_toArray, List.getElem?_cons_succ, List.getElem?_cons_zero]; exact rfl) (by kernel_rfl) (by kernel_rfl) (by kernel_rfl) (by intro _ _ _ h; exact h) (Or.inl ⟨by rfl, ?_⟩) (by assumption) ?_
    rotate_left
    · intro w hSw; (try dsimp only at hSw); go_simp; (try with_reducible rfl)
    try simp only [Act.put, List.setIfInBounds_toArray, List.set_cons_zero, List.set_cons_succ]
    refine wpAnyH_take (i := 7) (oi := _) (v := ?_) (by simp only [List.getElem?_toArray, List.getElem?_cons_succ, List.getElem?_cons_zero]; exact rfl) (by kernel_rfl) (by kernel_rfl) (by kernel_rfl) (by intro _ _ _ h; exact h) (Or.inl ⟨by rfl, ?_⟩) (by assumption) ?_
    rotate_left
    · intro w hSw; (try dsimp only at hSw); go_simp; (try with_reducible rfl)
    try simp only [Act.put, List.setIfInBounds_toArray, List.set_cons_zero, List.set_cons_succ]
    refine wpAnyH_take (i := 8) (oi := _) (v := ?_) (by simp only [List.getElem?_toArray, List.getElem?_cons_succ, List.getElem?_cons_zero]; exact rfl) (by kernel_rfl) (by kernel_rfl) (by kernel_rfl) (by intro _ _ _ h; exact h) (Or.inl ⟨by rfl, ?_⟩) (by assumption) ?_
    rotate_left
    · intro w hSw; (try dsimp only at hSw); go_simp; (try with_reducible rfl)
    try simp only [Act.put, List.setIfInBounds_toArray, List.set_cons_zero, List.set_cons_succ]
    refine wpAnyH_take (i := 9) (oi := _) (v := ?_) (by simp only [List.getElem?_toArray, List.getElem?_cons_succ, List.getElem?_cons_zero]; exact rfl) (by kernel_rfl) (by kernel_rfl) (by kernel_rfl) (by intro _ _ _ h; exact h) (Or.inl ⟨by rfl, ?_⟩) (by assumption) ?_
    rotate_left
    · intro w hSw; (try dsimp only at hSw); go_simp; (try with_reducible rfl)
    try simp only [Act.put, List.setIfInBounds_toArray, List.set_cons_zero, List.set_cons_succ]
    refine wpAnyH_take (i := 10) (oi := _) (v := ?_) (by simp only [List.getElem?_toArray, List.getElem?_cons_succ, List.getElem?_cons_zero]; exact rfl) (by kernel_rfl) (by kernel_rfl) (by kernel_rfl) (by intro _ _ _ h; exact h) (Or.inl ⟨by rfl, ?_⟩) (by assumption) ?_
    rotate_left
    · intro w hSw; (try dsimp only at hSw); go_simp; (try with_reducible rfl)
    try simp only [Act.put, List.setIfInBounds_toArray, List.set_cons_zero, List.set_cons_succ]
    refine wpAnyH_take (i := 11) (oi := _) (v := ?_) (by simp only [List.getElem?_toArray, List.getElem?_cons_succ, List.getElem?_cons_zero]; exact rfl) (by kernel_rfl) (by kernel_rfl) (by kernel_rfl) (by intro _ _ _ h; exact h) (Or.inl ⟨by rfl, ?_⟩) (by assumption) ?_
    rotate_left
    · intro w hSw; (try dsimp only at hSw); go_simp; (try with_reducible rfl)
    try simp only [Act.put, List.setIfInBounds_toArray, List.set_cons_zero, List.set_cons_succ]
    refine wpAnyH_take (i := 12) (oi := _) (v := ?_) (by simp only [List.getElem?_toArray, List.getElem?_cons_succ, List.getElem?_cons_zero]; exact rfl) (by kernel_rfl) (by kernel_rfl) (by kernel_rfl) (by intro _ _ _ h; exact h) (Or.inl ⟨by rfl, ?_⟩) (by assumption) ?_
    rotate_left
    · intro w hSw; (try dsimp only at hSw); go_simp; (try with_reducible rfl)
    try simp only [Act.put, List.setIfInBounds_toArray, List.set_cons_zero, List.set_cons_succ]
    refine wpAnyH_take (i := 13) (oi := _) (v := ?_) (by simp only [List.getElem?_toArray, List.getElem?_cons_succ, List.getElem?_cons_zero]; exact rfl) (by kernel_rfl) (by kernel_rfl) (by kernel_rfl) (by intro _ _ _ h; exact h) (Or.inl ⟨by rfl, ?_⟩) (by assumption) ?_
    rotate_left
    · intro w hSw; (try dsimp only at hSw); go_simp; (try with_reducible rfl)
    try simp only [Act.put, List.setIfInBounds_toArray, List.set_cons_zero, List.set_cons_succ]
    refine wpAnyH_take (i := 14) (oi := _) (v := ?_) (by simp only [List.getElem?_toArray, List.getElem?_cons_succ, List.getElem?_cons_zero]; exact rfl) (by kernel_rfl) (by kernel_rfl) (by kernel_rfl) (by intro _ _ _ h; exact h) (Or.inl ⟨by rfl, ?_⟩) (by assumption) ?_
    rotate_left
    · intro w hSw; (try dsimp only at hSw); go_simp; (try with_reducible rfl)
    try simp only [Act.put, List.setIfInBounds_toArray, List.set_cons_zero, List.set_cons_succ]
    refine wpAnyH_take (i := 16) (oi := _) (v := ?_) (by simp only [List.getElem?_toArray, List.getElem?_cons_succ, List.getElem?_cons_zero]; exact rfl) (by kernel_rfl) (by kernel_rfl) (by kernel_rfl) (by intro _ _ _ h; exact h) (Or.inl ⟨by rfl, ?_⟩) (by assumption) ?_
    rotate_left
    · intro w hSw; (try dsimp only at hSw); go_simp; (try with_reducible rfl)
    try simp only [Act.put, List.setIfInBounds_toArray, List.set_cons_zero, List.set_cons_succ]
    refine wpAnyH_take (i := 17) (oi := _) (v := ?_) (by simp only [List.getElem?_toArray, List.getElem?_cons_succ, List.getElem?_cons_zero]; exact rfl) (by kernel_rfl) (by kernel_rfl) (by kernel_rfl) (by intro _ _ _ h; exact h) (Or.inl ⟨by rfl, ?_⟩) (by assumption) ?_
    rotate_left
    · intro w hSw; (try dsimp only at hSw); go_simp; (try with_reducible rfl)
    try simp only [Act.put, List.setIfInBounds_toArray, List.set_cons_zero, List.set_cons_succ]
    refine wpAnyH_take (i := 18) (oi := _) (v := ?_) (by simp only [List.getElem?_toArray, List.getElem?_cons_succ, List.getElem?_cons_zero]; exact rfl) (by kernel_rfl) (by kernel_rfl) (by kernel_rfl) (by intro _ _ _ h; exact h) (Or.inl ⟨by rfl, ?_⟩) (by assumption) ?_
    rotate_left
    · intro w hSw; (try dsimp only at hSw); go_simp; (try with_reducible rfl)
    try simp only [Act.put, List.setIfInBounds_toArray, List.set_cons_zero, List.set_cons_succ]
    refine wpAnyH_take (i := 19) (oi := _) (v := ?_) (by simp only [List.getElem?_toArray, List.getElem?_cons_succ, List.getElem?_cons_zero]; exact rfl) (by kernel_rfl) (by kernel_rfl) (by kernel_rfl) (by intro _ _ _ h; exact h) (Or.inl ⟨by rfl, ?_⟩) (by assumption) ?_
    rotate_left
    · intro w hSw; (try dsimp only at hSw); go_simp; (try with_reducible rfl)
    try simp only [Act.put, List.setIfInBounds_toArray, List.set_cons_zero, List.set_cons_succ]
    refine wpAnyH_take (i := 20) (oi := _) (v := ?_) (by simp only [List.getElem?_toArray, List.getElem?_cons_succ, List.getElem?_cons_zero]; exact rfl) (by kernel_rfl) (by kernel_rfl) (by kernel_rfl) (by intro _ _ _ h; exact h) (Or.inl ⟨by rfl, ?_⟩) (by assumption) ?_
    rotate_left
    · intro w hSw; (try dsimp only at hSw); go_simp; (try with_reducible rfl)
    try simp only [Act.put, List.setIfInBounds_toArray, List.set_cons_zero, List.set_cons_succ]
    refine wpAnyH_take (i := 21) (oi := _) (v := ?_) (by simp only [List.getElem?_toArray, List.getElem?_cons_succ, List.getElem?_cons_zero]; exact rfl) (by kernel_rfl) (by kernel_rfl) (by kernel_rfl) (by intro _ _ _ h; exact h) (Or.inl ⟨by rfl, ?_⟩) (by assumption) ?_
    rotate_left
    · intro w hSw; (try dsimp only at hSw); go_simp; (try with_reducible rfl)
    try simp only [Act.put, List.setIfInBounds_toArray, List.set_cons_zero, List.set_cons_succ]
    refine wpAnyH_take (i := 22) (oi := _) (v := ?_) (by simp only [List.getElem?_toArray, List.getElem?_cons_succ, List.getElem?_cons_zero]; exact rfl) (by kernel_rfl) (by kernel_rfl) (by kernel_rfl) (by intro _ _ _ h; exact h) (Or.inl ⟨by rfl, ?_⟩) (by assumption) ?_
    rotate_left
    · intro w hSw; (try dsimp only at hSw); go_simp; (try with_reducible rfl)
    try simp only [Act.put, List.setIfInBounds_toArray, List.set_cons_zero, List.set_cons_succ]
    refine wpAnyH_take (i := 23) (oi := _) (v := ?_) (by simp only [List.getElem?_toArray, List.getElem?_cons_succ, List.getElem?_cons_zero]; exact rfl) (by kernel_rfl) (by kernel_rfl) (by kernel_rfl) (by intro _ _ _ h; exact h) (Or.inl ⟨by rfl, ?_⟩) (by assumption) ?_
    rotate_left
    · intro w hSw; (try dsimp only at hSw); go_simp; (try with_reducible rfl)
    try simp only [Act.put, List.setIfInBounds_toArray, List.set_cons_zero, List.set_cons_succ]
    refine wpAnyH_take (i := 24) (oi := _) (v := ?_) (by simp only [List.getElem?_toArray, List.getElem?_cons_succ, List.getElem?_cons_zero]; exact rfl) (by kernel_rfl) (by kernel_rfl) (by kernel_rfl) (by intro _ _ _ h; exact h) (Or.inl ⟨by rfl, ?_⟩) (by assumption) ?_
    rotate_left
    · intro w hSw; (try dsimp only at hSw); go_simp; (try with_reducible rfl)
    try simp only [Act.put, List.setIfInBounds_toArray, List.set_cons_zero, List.set_cons_succ]
    refine wpAnyH_take (i := 25) (oi := _) (v := ?_) (by simp only [List.getElem?_toArray, List.getElem?_cons_succ, List.getElem?_cons_zero]; exact rfl) (by kernel_rfl) (by kernel_rfl) (by kernel_rfl) (by intro _ _ _ h; exact h) (Or.inl ⟨by rfl, ?_⟩) (by assumption) ?_
    rotate_left
    · intro w hSw; (try dsimp only at hSw); go_simp; (try with_reducible rfl)
    try simp only [Act.put, List.setIfInBounds_toArray, List.set_cons_zero, List.set_cons_succ]
    obtain ⟨ad, had, hadc⟩ : ∃ ad : Addr, (if ci = j + 1 then some (⟨bi, 0, none⟩ : Addr) else some ⟨bi, (j + 1) * 2, none⟩) = some ad ∧ (ci ≠ j + 1 → ad = ⟨bi, (j + 1) * 2, none⟩) := by
      by_cases h : ci = j + 1
      · exact ⟨_, if_pos h, fun hh => absurd h hh⟩
      · exact ⟨_, if_neg h, fun _ => rfl⟩
    rw [had]
    obtain ⟨hI, hv, hvi, hn, hs⟩ := HH.out
    have hrow := hI.rows i hi
    rw [hvi] at hrow
    have HOr := Lib.hid (HO.out.alloc_ (.cells #[] 68))
    have HO1 := Lib.hid (HO.out.alloc (.cells #[] 68))
    have t2 := HC.out _ _ (HOr.out.perm (rd_out_perm _ _ _ _ _ _ _ hi).symm)
    have t3 := H1.out _ _ (HOr.out.perm (rd_out_perm _ _ _ _ _ _ _ hi).symm)
    rw [hn] at t3 hrow
    have HCE := Lib.hid (fun (W : World) (X : Own) (hX : Owned w0 W (os i ++ X)) => row_cells hrow hX)
    have HN := Lib.hid hn
    clear hI hv hvi hrow hs hn
    refine wpAnyH_ready (rs := [5]) (by kernel_rfl) (by simp) (AllReadyH.cons (o := _) rfl (fun K hK => ?_) AllReadyH.nil)
    go_simp
    refine hK.out _ _ ⟨t2, t3⟩ (fun hHeld => ?_)
    clear hK K
    try simp only [Act.put, List.setIfInBounds_toArray, List.set_cons_zero, List.set_cons_succ]
    have hm1 : 0 + j ≤ maxLen := by unfold maxLen; omega
    have hm2 : (0 + j) * 16 ≤ 140737488355328 := by omega
    have hr0 : Row 68 2 (.slice (some ⟨w2.drew.heap.size, 0, none⟩) 0 0) 0 [] [(w2.drew.heap.size, .cells #[] 68 (0, 0))] := ⟨rfl, .inr ⟨_, 0, #[], rfl, rfl, by omega, by unfold maxLen; omega, rfl, rfl⟩⟩
    refine wpAnyH_ready (rs := [15]) (by kernel_rfl) (by simp) (AllReadyH.cons (o := _) rfl (fun K hK => ?_) AllReadyH.nil)
    refine step_append_gen rfl (.tmp 20) (.tmp 29) 66 rfl 68 (.agg #[.int .i64 0, .int .i64 0]) 2 16 Try.underlying66 info_item rfl (by decide) _ 0 [] [_] _ rfl hr0 HO1.out ⟨bi, 0, none⟩ j ci (itemsV ((st i).take j)) rfl (by rw [itemsV_len, List.length_take, HN.out, Nat.min_eq_left (by omega)]) (fun t u ht => by
      rw [Addr.add_lit, Nat.zero_add]
      exact HCE.out _ _ HOr.out t u (itemsV_take ht)) (itemsV_one _) hm1 hm2 ?_
    intro v1 r1 w5 hrow1 hO5
    have HO5 := Lib.hid hO5
    have HOr5 := Lib.hid (show Owned w0 w5 (os i ++ RdRest g v q os m i F) from hO5.drop_)
    have t4 := HC.out _ _ (HOr5.out.perm (rd_out_perm _ _ _ _ _ _ _ hi).symm)
    have t5 := H1.out _ _ (HOr5.out.perm (rd_out_perm _ _ _ _ _ _ _ hi).symm)
    rw [HN.out] at t5
    rw [Nat.zero_add, List.nil_append] at hrow1
    refine hK.out _ _ ⟨t4, t5⟩ (fun hHeld => ?_)
    clear hK K hO5 t2 t3 t0 t1
    try simp only [Act.put, List.setIfInBounds_toArray, List.set_cons_zero, List.set_cons_succ]
    have hm3 : j + (n - (j + 1)) ≤ maxLen := by unfold maxLen; omega
    have hm4 : (j + (n - (j + 1))) * 16 ≤ 140737488355328 := by omega
    refine wpAnyH_ready (rs := [26]) (by kernel_rfl) (by simp) (AllReadyH.cons (o := _) rfl (fun K hK => ?_) AllReadyH.nil)
    refine step_append_gen rfl (.tmp 30) (.tmp 40) 66 rfl 68 (.agg #[.int .i64 0, .int .i64 0]) 2 16 Try.underlying66 info_item rfl (by decide) v1 j _ r1 _ rfl hrow1 HO5.out ad (n - (j + 1)) (ci - (j + 1)) (itemsV ((st i).drop (j + 1))) rfl (by rw [itemsV_len, List.length_drop, HN.out]) (fun t u ht => by
      have hlt : t < (n - (j + 1)) * 2 := by
        have h9 := (List.getElem?_eq_some_iff.1 ht).1
        rw [itemsV_len, List.length_drop, HN.out] at h9
        exact h9
      rw [hadc (by omega), Addr.add_lit]
      exact HCE.out _ _ HOr5.out ((j + 1) * 2 + t) u (itemsV_drop ht)) (itemsV_one _) hm3 hm4 ?_
    intro v2 r2 w6 hrow2 hO6
    obtain ⟨A2, c2, rfl⟩ := hrow2.slice
    obtain ⟨hI, hv, hvi, hn, hs⟩ := HH.out
    have hrow3 : Row 68 2 (.slice A2 (j + (n - (j + 1))) c2) ((st i).take j ++ (st i).drop (j + 1)).length (itemsV ((st i).take j ++ (st i).drop (j + 1))) r2 := by
      rw [List.length_append, List.length_take, List.length_drop, hn, Nat.min_eq_left (by omega), itemsV_append]
      exact hrow2
    have hO7 : Owned w0 w6 (r2 ++ RdRest g v q os m i F) := hO6.sub (List.Sublist.append (List.Sublist.refl _) (List.sublist_append_right _ _))
    obtain ⟨c6, f6, hw⟩ := rd_write hI hi hv hrow3 hO7
    rw [hvi, hn] at c6
    have c7 : w6.cell? ⟨g, 0, none⟩ = some (.slice (some ⟨b, 0, none⟩) m c) := by rw [← hv]; exact (Owned.cell (hO7.perm List.perm_middle) 0).trans rfl
    have HW := Lib.hid (And.intro hs hw)
    refine hK.out _ _ ⟨c7, c6⟩ (fun hHeld => ?_)
    clear hK K hI hv hvi hn hs hrow3 hrow2 hO6 hO7 hw hrow1 t4 t5 HH HCE HO5 HOr5 HN HC H1 HO HO1 HOr
    try simp only [Act.put, List.setIfInBounds_toArray, List.set_cons_zero, List.set_cons_succ]
    refine wpAnyH_take (i := 27) (oi := _) (v := ?_) (by simp only [List.getElem?_toArray, List.getElem?_cons_succ, List.getElem?_cons_zero]; exact rfl) (by kernel_rfl) (by kernel_rfl) (by kernel_rfl) (by intro _ _ _ h; exact h) (Or.inl ⟨by rfl, ?_⟩) (by assumption) ?_
    rotate_left
    · intro w hSw; (try dsimp only at hSw); go_simp; (try with_reducible rfl)
    try simp only [Act.put, List.setIfInBounds_toArray, List.set_cons_zero, List.set_cons_succ]
    refine wpAnyH_done (by kernel_rfl) ?_ _
    unfold popQ
    go_simp
    go_wp2_with fail
    go_ret
    obtain ⟨hs, r', hr', hO'⟩ := HW.out
    exact ⟨rfl, i, _, _, _, r', hi, hs, hr', hO'⟩
end
end Go.Proofs.Ytlnokijfmkldkaa
