/- The document's deque: Reweigh; each call as a step on plain lists. -/
import Derived.Test.YtlnokijfmkldkaaRefDq6
namespace Go.Proofs.Ytlnokijfmkldkaa
open Go.RowKit Go.Sep DqPure
theorem itemsV_set {l : List (Int × Int)} {j : Nat} {id z : Int} (x : Int) (hj : j < l.length) (hs : l = l.take j ++ (id, z) :: l.drop (j + 1)) : itemsV (l.take j ++ (id, x) :: l.drop (j + 1)) = (itemsV l).set (j * 2 + 1) (.int .i64 x) := by
  have e : (itemsV (l.take j)).length = j * 2 := by rw [itemsV_len, List.length_take, Nat.min_eq_left (by omega)]
  have e2 : itemsV l = itemsV (l.take j) ++ (.int .i64 id :: .int .i64 z :: itemsV (l.drop (j + 1))) := by
    have := congrArg itemsV hs
    rw [itemsV_append] at this
    exact this
  rw [e2, List.set_append_right _ _ (by omega), e, show j * 2 + 1 - j * 2 = 1 by omega, itemsV_append]
  rfl
section
variable {g m : Nat} {st : Sts} {r F : Own} {w0 w : World}
set_option maxHeartbeats 3200000 in
set_option maxRecDepth 100000 in
theorem rd_reweigh_some {id x : Int} (h : RdAt g m st r) (hm : m ≤ 16) (hlen : ∀ i, i < m → (st i).length ≤ 1000000) (ha : ¬ Absent m st id) (hx : Fine x) (hO : Owned w0 w (r ++ F)) :
    Calls Try.prog 25 #[.pointer (some ⟨g, 0, none⟩), .int .i64 id, .int .i64 x] w fun e w' => e = .returned (.int .i64 0) ∧ ∃ i xs z ys r', i < m ∧ st i = xs ++ (id, z) :: ys ∧ RdAt g m (updS st i (xs ++ (id, x) :: ys)) r' ∧ Owned w0 w' (r' ++ F) := by
  have CN := rd_find id h hm hlen hO
  have CF := rd_fine (w := w) x
  rw [decide_eq_true hx] at CF
  obtain ⟨v, q, vs, os, rfl, hI⟩ := h
  obtain ⟨A, c, hv, hc, hrows⟩ := rd_reads (w0 := w0) (g := g) hI
  have t0 := hc _ _ hO
  go_enter Try.func25, Try.ntmps25
  go_wp2_with fail
  go_at_call 35
  refine (CN).mono ?_
  rintro e w2 ⟨a1, b1, rfl, hF, rfl⟩
  obtain ⟨i, j, rfl, rfl, hi, hj, he⟩ := find_some hF ha
  obtain ⟨b, rfl, hr⟩ := hrows (by omega)
  obtain ⟨Ai, ci, hvi, h1, hit⟩ := hr i hi
  have t1 := h1 _ _ hO
  have hs := split_at (st i) hj he
  have hli := hlen i hi
  have hrow := hI.rows i hi
  rw [hvi] at hrow
  have hof := rd_focus (k := i) hi hO
  obtain ⟨hl0, hc0⟩ := hrow
  rcases hc0 with ⟨h0, h01, -⟩ | ⟨bi, cap, cur, h0, hos, e1, e2, e3, e4⟩
  · omega
  · injection h0 with h0 h00 h02
    subst h0
    rw [hos] at hof
    have hcell : cur[j * 2 + 1]? = some (.int .i64 ((st i).getD j (0, 0)).2) := by
      have h5 : cur[j * 2 + 1]? = (itemsV (st i))[j * 2 + 1]? := by rw [← e4, List.getElem?_take, if_pos (by omega)]; simp
      rw [h5]
      exact (itemsV_get _ _ hj).2
    have t2 : w2.cell? ⟨bi, j * 2 + 1, none⟩ = some (.int .i64 ((st i).getD j (0, 0)).2) := (Owned.cell hof _).trans hcell
    have f2 : w2.frozen? ⟨bi, j * 2 + 1, none⟩ = false := Owned.frozen hof _
    have hset := hof.set (j * 2 + 1) (.int .i64 x)
    have hN : ∃ r', RdAt g m (updS st i ((st i).take j ++ (id, x) :: (st i).drop (j + 1))) r' ∧ Owned w0 (w2.setCell ⟨bi, j * 2 + 1, none⟩ (.int .i64 x)) (r' ++ F) := by
      have h6 : Owned w0 (w2.setCell ⟨bi, j * 2 + 1, none⟩ (.int .i64 x)) ([(bi, .cells (cur.setIfInBounds (j * 2 + 1) (.int .i64 x)) 68 (0, 0))] ++ RdRest g v q os m i F) := hset
      refine ⟨_, ⟨v, q, vs, updS os i [(bi, .cells (cur.setIfInBounds (j * 2 + 1) (.int .i64 x)) 68 (0, 0))], rfl, hI.row, fun k hk => ?_⟩, h6.perm (rd_in_perm _ _ _ _ _ _ _ _ hi)⟩
      by_cases e : k = i
      · subst e
        have hlen2 : ((st k).take j ++ (id, x) :: (st k).drop (j + 1)).length = (st k).length := by
          rw [List.length_append, List.length_cons, List.length_take, List.length_drop, Nat.min_eq_left (by omega)]; omega
        rw [updS_same, updS_same, hlen2, itemsV_set x hj hs, hvi, h02]
        exact ⟨by rw [List.length_set]; exact hl0, .inr ⟨bi, cap, _, rfl, rfl, e1, e2, by simpa using e3, by rw [Array.toList_setIfInBounds, List.take_set, e4]⟩⟩
      · rw [updS_ne _ _ e, updS_ne _ _ e]
        exact hI.rows k hk
    have HN := Lib.hid (And.intro hs hN)
    obtain ⟨n, hn⟩ : ∃ n, (st i).length = n := ⟨_, rfl⟩
    rw [hn] at t1 hj hli
    generalize ((st i).getD j (0, 0)).2 = z at *
    clear hF CN hI hv hc hrows hr h1 hO he hn ha hlen hvi hof hcell hset hN hs hl0 e1 e2 e3 e4 hos h00 h02
    go_wp2_with fail
    go_at_call 34
    refine (CF).mono ?_
    rintro e w3 ⟨rfl, rfl⟩
    go_wp2_with fail
    go_ret
    obtain ⟨hs, r', hr', hO'⟩ := HN.out
    exact ⟨rfl, i, _, _, _, r', hi, hs, hr', hO'⟩
theorem rd_push_r (hm : m ≤ 16) (hlen : ∀ i, i < m → (st i).length ≤ 1000000) (k i x : Int) (h : RdAt g m st r) (hO : Owned w0 w (r ++ F)) :
    Calls Try.prog 21 #[.pointer (some ⟨g, 0, none⟩), .int .i64 k, .int .i64 i, .int .i64 x] w fun e w' => ∃ c st' r', e = .returned (.int .i64 c) ∧ PushR m st k i x c st' ∧ RdAt g m st' r' ∧ Owned w0 w' (r' ++ F) := by
  by_cases hg : Good m k ∧ 1 ≤ i ∧ i ≤ 65536 ∧ Fine x
  · by_cases ha : Absent m st i
    · obtain ⟨j, rfl⟩ : ∃ j : Nat, k = (j : Int) := ⟨k.toNat, by have := hg.1.1; omega⟩
      refine (rd_push_new h hm hlen (by have := hg.1.2; omega) ⟨hg.2.1, hg.2.2.1⟩ hg.2.2.2 ha hO).mono ?_
      rintro e w' ⟨rfl, r', hr', hO'⟩
      exact ⟨0, _, r', rfl, .new hg ha, hr', hO'⟩
    · refine (rd_push_dup h hm hlen hg ha hO).mono ?_
      rintro e w' ⟨rfl, rfl⟩
      exact ⟨5, _, r, rfl, .dup hg ha, h, hO⟩
  · refine (rd_push_bad h hg hO).mono ?_
    rintro e w' ⟨rfl, rfl⟩
    exact ⟨1, _, r, rfl, .bad hg, h, hO⟩
theorem rd_unlink_r (hm : m ≤ 16) (hlen : ∀ i, i < m → (st i).length ≤ 1000000) (i : Int) (h : RdAt g m st r) (hO : Owned w0 w (r ++ F)) :
    Calls Try.prog 22 #[.pointer (some ⟨g, 0, none⟩), .int .i64 i] w fun e w' => ∃ c st' r', e = .returned (.int .i64 c) ∧ UnlinkR m st i c st' ∧ RdAt g m st' r' ∧ Owned w0 w' (r' ++ F) := by
  by_cases ha : Absent m st i
  · refine (rd_unlink_none h hm hlen ha hO).mono ?_
    rintro e w' ⟨rfl, rfl⟩
    exact ⟨3, _, r, rfl, .none ha, h, hO⟩
  · refine (rd_unlink_some h hm hlen hO ha).mono ?_
    rintro e w' ⟨rfl, k, xs, z, ys, r', hk, hs, hr', hO'⟩
    exact ⟨0, _, r', rfl, .some k xs ys z hk hs, hr', hO'⟩
theorem rd_move_r (hm : m ≤ 16) (hlen : ∀ i, i < m → (st i).length ≤ 1000000) (hu : Uniq m st) (i k : Int) (h : RdAt g m st r) (hO : Owned w0 w (r ++ F)) :
    Calls Try.prog 23 #[.pointer (some ⟨g, 0, none⟩), .int .i64 i, .int .i64 k] w fun e w' => ∃ c st' r', e = .returned (.int .i64 c) ∧ MoveR m st i k c st' ∧ RdAt g m st' r' ∧ Owned w0 w' (r' ++ F) := by
  by_cases ha : Absent m st i
  · refine (rd_move_none h hm hlen ha hO).mono ?_
    rintro e w' ⟨rfl, rfl⟩
    exact ⟨3, _, r, rfl, .none ha, h, hO⟩
  · by_cases hk : Good m k
    · obtain ⟨j, rfl⟩ : ∃ j : Nat, k = (j : Int) := ⟨k.toNat, by have := hk.1; omega⟩
      refine (rd_move_some h hm hlen hu (by have := hk.2; omega) ha hO).mono ?_
      rintro e w' ⟨rfl, l, xs, z, ys, r', hl, hs, hr', hO'⟩
      exact ⟨0, _, r', rfl, .some l xs ys z hl hs hk, hr', hO'⟩
    · refine (rd_move_bad h hm hlen ha hk hO).mono ?_
      rintro e w' ⟨rfl, rfl⟩
      exact ⟨1, _, r, rfl, .bad ha hk, h, hO⟩
theorem rd_reweigh_r (hm : m ≤ 16) (hlen : ∀ i, i < m → (st i).length ≤ 1000000) (i x : Int) (h : RdAt g m st r) (hO : Owned w0 w (r ++ F)) :
    Calls Try.prog 25 #[.pointer (some ⟨g, 0, none⟩), .int .i64 i, .int .i64 x] w fun e w' => ∃ c st' r', e = .returned (.int .i64 c) ∧ ReweighR m st i x c st' ∧ RdAt g m st' r' ∧ Owned w0 w' (r' ++ F) := by
  by_cases ha : Absent m st i
  · refine (rd_reweigh_none h hm hlen ha hO).mono ?_
    rintro e w' ⟨rfl, rfl⟩
    exact ⟨3, _, r, rfl, .none ha, h, hO⟩
  · by_cases hx : Fine x
    · refine (rd_reweigh_some h hm hlen ha hx hO).mono ?_
      rintro e w' ⟨rfl, l, xs, z, ys, r', hl, hs, hr', hO'⟩
      exact ⟨0, _, r', rfl, .some l xs ys z hl hs hx, hr', hO'⟩
    · refine (rd_reweigh_bad h hm hlen ha hx hO).mono ?_
      rintro e w' ⟨rfl, rfl⟩
      exact ⟨1, _, r, rfl, .bad ha hx, h, hO⟩
end
end Go.Proofs.Ytlnokijfmkldkaa
