/- The document's deque (pantryref07) in memory: what only reads. -/
import Derived.Test.YtlnokijfmkldkaaDq17
import Derived.Test.YtlnokijfmkldkaaInts
import Derived.Deep.LoopGhost
namespace Go.Proofs.Ytlnokijfmkldkaa
open Go.RowKit Go.Sep DqPure
def itemsV : List (Int × Int) → List Value
  | [] => []
  | p :: l => .int .i64 p.1 :: .int .i64 p.2 :: itemsV l
theorem itemsV_len : ∀ l, (itemsV l).length = l.length * 2
  | [] => rfl
  | p :: l => by rw [itemsV, List.length_cons, List.length_cons, itemsV_len l, List.length_cons]; omega
theorem itemsV_append : ∀ a b, itemsV (a ++ b) = itemsV a ++ itemsV b
  | [], _ => rfl
  | p :: a, b => by rw [List.cons_append, itemsV, itemsV, itemsV_append a b]; rfl
theorem itemsV_one : ∀ l, ∀ v ∈ itemsV l, v.oneCell' = true
  | [], v, h => by simp [itemsV] at h
  | p :: l, v, h => by
    rw [itemsV] at h
    rcases List.mem_cons.1 h with rfl | h
    · rfl
    · rcases List.mem_cons.1 h with rfl | h
      · rfl
      · exact itemsV_one l v h
theorem itemsV_get : ∀ (l : List (Int × Int)) (j : Nat), j < l.length → (itemsV l)[j * 2]? = some (.int .i64 (l.getD j (0, 0)).1) ∧ (itemsV l)[j * 2 + 1]? = some (.int .i64 (l.getD j (0, 0)).2)
  | [], j, h => absurd h (Nat.not_lt_zero _)
  | p :: l, 0, _ => ⟨rfl, rfl⟩
  | p :: l, j + 1, h => by
    have := itemsV_get l j (by rw [List.length_cons] at h; omega)
    rw [show (j + 1) * 2 = j * 2 + 1 + 1 by omega]
    exact ⟨this.1, this.2⟩
def flatO (os : Nat → Own) : Nat → Own
  | 0 => []
  | k + 1 => flatO os k ++ os k
theorem flatO_out (os : Nat → Own) {i : Nat} (o : Own) : ∀ m, m ≤ i → flatO (updS os i o) m = flatO os m
  | 0, _ => rfl
  | m + 1, h => by rw [flatO, flatO, flatO_out os o m (by omega), updS_ne _ _ (by omega)]
theorem updS_twice {α : Type} (f : Nat → α) (i : Nat) (u v : α) : updS (updS f i u) i v = updS f i v := by
  funext j
  unfold updS
  split <;> rfl
theorem flat_out (os : Nat → Own) {i : Nat} : ∀ m, i < m → (flatO os m).Perm (os i ++ flatO (updS os i []) m)
  | 0, h => absurd h (Nat.not_lt_zero _)
  | m + 1, h => by
    rw [flatO, flatO]
    by_cases e : i = m
    · subst e
      rw [flatO_out os [] i (Nat.le_refl _), updS_same, List.append_nil]
      exact List.perm_append_comm
    · rw [updS_ne _ _ (Ne.symm e), ← List.append_assoc]
      exact (flat_out os m (by omega)).append_right _
theorem flat_in (os : Nat → Own) {i m : Nat} (o : Own) (h : i < m) : (o ++ flatO (updS os i []) m).Perm (flatO (updS os i o) m) := by
  have h1 := flat_out (updS os i o) m h
  rw [updS_same, updS_twice] at h1
  exact h1.symm
structure RdIn (v : Value) (q : Own) (vs : Nat → Value) (os : Nat → Own) (m : Nat) (st : Sts) : Prop where
  row : Row 66 1 v m ((List.range m).map vs) q
  rows : ∀ i, i < m → Row 68 2 (vs i) (st i).length (itemsV (st i)) (os i)
def RdB (g : Nat) (v : Value) (q : Own) (os : Nat → Own) (m : Nat) : Own := (g, .cells #[v] 65 (0, 0)) :: (q ++ flatO os m)
/-- The document's rows in memory. -/
def RdAt (g m : Nat) (st : Sts) (r : Own) : Prop := ∃ v q vs os, r = RdB g v q os m ∧ RdIn v q vs os m st
section
variable {g m : Nat} {st : Sts} {r F : Own} {w0 w : World} {v : Value} {q : Own} {vs : Nat → Value} {os : Nat → Own}
theorem RdAt.congr {st' : Sts} (h : RdAt g m st r) (e : ∀ k, k < m → st' k = st k) : RdAt g m st' r := by
  obtain ⟨v, q, vs, os, rfl, hI⟩ := h
  exact ⟨v, q, vs, os, rfl, hI.row, fun i hi => by rw [e i hi]; exact hI.rows i hi⟩
/-- one row of items, ahead of all else -/
def RdRest (g : Nat) (v : Value) (q : Own) (os : Nat → Own) (m i : Nat) (F : Own) : Own := (g, .cells #[v] 65 (0, 0)) :: (q ++ (flatO (updS os i []) m ++ F))
theorem rd_app (g : Nat) (v : Value) (q : Own) (os : Nat → Own) (m : Nat) (F : Own) : RdB g v q os m ++ F = [(g, Obj.cells #[v] 65 (0, 0))] ++ (q ++ (flatO os m ++ F)) := by
  unfold RdB
  rw [List.cons_append, List.append_assoc]
  rfl
theorem rd_out_perm (g : Nat) (v : Value) (q : Own) (os : Nat → Own) (m i : Nat) (F : Own) (hi : i < m) : (RdB g v q os m ++ F).Perm (os i ++ RdRest g v q os m i F) := by
  rw [rd_app]
  have e := (flat_out os m hi).append_right F
  rw [List.append_assoc] at e
  exact (List.Perm.append_left [_] ((List.Perm.append_left q e).trans (perm2 _ _ _))).trans (perm2 [_] _ _)
theorem rd_in_perm (g : Nat) (v : Value) (q : Own) (os : Nat → Own) (m i : Nat) (o F : Own) (hi : i < m) : (o ++ RdRest g v q os m i F).Perm (RdB g v q (updS os i o) m ++ F) := by
  rw [rd_app]
  have e := (flat_in os o hi).append_right F
  rw [List.append_assoc] at e
  exact (perm2 o [_] _).trans (List.Perm.append_left [_] ((perm2 _ _ _).trans (List.Perm.append_left q e)))
theorem rd_q (h : Owned w0 w (RdB g v q os m ++ F)) : Owned w0 w (q ++ ([(g, .cells #[v] 65 (0, 0))] ++ (flatO os m ++ F))) := by
  rw [rd_app] at h
  exact Owned.comm (a := [_]) h
theorem rd_c0 (h : Owned w0 w (RdB g v q os m ++ F)) : w.cell? ⟨g, 0, none⟩ = some v := (Owned.cell h 0).trans rfl
/-- what can be read of the rows -/
theorem rd_row (h : RdIn v q vs os m st) : ∃ A c, v = .slice A m c ∧ (0 < m → ∃ b, A = some ⟨b, 0, none⟩ ∧ ∀ W F, Owned w0 W (q ++ F) → ∀ i, i < m → W.cell? ⟨b, i, none⟩ = some (vs i)) := by
  obtain ⟨hl, hc⟩ := h.row
  rcases hc with ⟨rfl, rfl, rfl⟩ | ⟨b, cap, cur, rfl, rfl, h1, h2, h3, h4⟩
  · exact ⟨none, 0, rfl, fun h => absurd h (by omega)⟩
  · refine ⟨some ⟨b, 0, none⟩, cap, rfl, fun _ => ⟨b, rfl, fun W G hO i hi => ?_⟩⟩
    refine (Owned.cell hO i).trans ?_
    have h5 : cur[i]? = (cur.toList.take (m * 1))[i]? := by rw [List.getElem?_take, if_pos (by omega)]; simp
    rw [h5, h4]
    simp [hi]
theorem rd_items {u : Value} {l : List (Int × Int)} {o : Own} (h : Row 68 2 u l.length (itemsV l) o) : ∃ A c, u = .slice A l.length c ∧ (0 < l.length → ∃ b, A = some ⟨b, 0, none⟩ ∧ ∀ W F, Owned w0 W (o ++ F) → ∀ j, j < l.length →
    W.cell? ⟨b, j * 2, none⟩ = some (.int .i64 (l.getD j (0, 0)).1) ∧ W.cell? ⟨b, j * 2 + 1, none⟩ = some (.int .i64 (l.getD j (0, 0)).2)) := by
  obtain ⟨hl, hc⟩ := h
  rcases hc with ⟨rfl, h0, rfl⟩ | ⟨b, cap, cur, rfl, rfl, h1, h2, h3, h4⟩
  · exact ⟨none, 0, by rw [h0], fun h => absurd h (by omega)⟩
  · refine ⟨some ⟨b, 0, none⟩, cap, rfl, fun _ => ⟨b, rfl, fun W G hO j hj => ?_⟩⟩
    have h5 : ∀ t, t < l.length * 2 → cur[t]? = (itemsV l)[t]? := fun t ht => by
      rw [← h4, List.getElem?_take, if_pos ht]; simp
    obtain ⟨e1, e2⟩ := itemsV_get l j hj
    exact ⟨((Owned.cell hO _).trans (h5 _ (by omega))).trans e1, ((Owned.cell hO _).trans (h5 _ (by omega))).trans e2⟩
/-- all that can be read, in every world in which the rows stand -/
theorem rd_reads (h : RdIn v q vs os m st) : ∃ A c, v = .slice A m c ∧ (∀ W F, Owned w0 W (RdB g v q os m ++ F) → W.cell? ⟨g, 0, none⟩ = some (.slice A m c)) ∧ (0 < m → ∃ b, A = some ⟨b, 0, none⟩ ∧ ∀ i, i < m → ∃ Ai ci, vs i = .slice Ai (st i).length ci ∧
    (∀ W F, Owned w0 W (RdB g v q os m ++ F) → W.cell? ⟨b, i, none⟩ = some (.slice Ai (st i).length ci)) ∧
    (0 < (st i).length → ∃ bi, Ai = some ⟨bi, 0, none⟩ ∧ ∀ W F, Owned w0 W (RdB g v q os m ++ F) → ∀ j, j < (st i).length → W.cell? ⟨bi, j * 2, none⟩ = some (.int .i64 ((st i).getD j (0, 0)).1) ∧ W.cell? ⟨bi, j * 2 + 1, none⟩ = some (.int .i64 ((st i).getD j (0, 0)).2))) := by
  obtain ⟨A, c, rfl, hb⟩ := rd_row (w0 := w0) h
  refine ⟨A, c, rfl, fun W F hO => rd_c0 hO, fun hm => ?_⟩
  obtain ⟨b, rfl, hcell⟩ := hb hm
  refine ⟨b, rfl, fun i hi => ?_⟩
  obtain ⟨Ai, ci, e, hbi⟩ := rd_items (w0 := w0) (h.rows i hi)
  refine ⟨Ai, ci, e, fun W F hO => by rw [← e]; exact hcell W _ (rd_q hO) i hi, fun hl => ?_⟩
  obtain ⟨bi, rfl, hc2⟩ := hbi hl
  exact ⟨bi, rfl, fun W F hO j hj => hc2 W _ (hO.perm (rd_out_perm _ _ _ _ _ _ _ hi)) j hj⟩
set_option maxHeartbeats 800000 in
theorem rd_row_calls (k : Int) (h : RdAt g m st r) (hO : Owned w0 w (r ++ F)) :
    Calls Try.prog 33 #[.pointer (some ⟨g, 0, none⟩), .int .i64 k] w fun e w' => e = .returned (.bool (decide (Good m k))) ∧ w' = w := by
  obtain ⟨v, q, vs, os, rfl, hI⟩ := h
  obtain ⟨A, c, rfl, hc, -⟩ := rd_reads (w0 := w0) (g := g) hI
  have c0 := hc _ _ hO
  clear hc hI hO
  by_cases h0 : 0 ≤ k
  · have hd : decide (0 ≤ k) = true := by simpa using h0
    by_cases h1 : k < (m : Int)
    · have hd2 : decide (k < (m : Int)) = true := by simpa using h1
      have hb := Lib.hid (decide_eq_true (show Good m k from ⟨h0, h1⟩))
      go_enter Try.func33, Try.ntmps33
      go_wp2_with fail
      go_ret
      exact ⟨by rw [hb.out]; rfl, rfl⟩
    · have hd2 : decide (k < (m : Int)) = false := by simpa using h1
      have hb := Lib.hid (decide_eq_false (fun hh : Good m k => h1 hh.2))
      go_enter Try.func33, Try.ntmps33
      go_wp2_with fail
      go_ret
      exact ⟨by rw [hb.out]; rfl, rfl⟩
  · have hd : decide (0 ≤ k) = false := by simpa using h0
    have hb := Lib.hid (decide_eq_false (fun hh : Good m k => h0 hh.1))
    go_enter Try.func33, Try.ntmps33
    go_wp2_with fail
    go_ret
    exact ⟨by rw [hb.out]; rfl, rfl⟩
theorem rd_fine (x : Int) : Calls Try.prog 34 #[.int .i64 x] w fun e w' => e = .returned (.bool (decide (Fine x))) ∧ w' = w := by
  by_cases h0 : 0 ≤ x
  · have hd : decide (0 ≤ x) = true := by simpa using h0
    by_cases h1 : x ≤ 2147483648
    · have hd2 : decide (x ≤ 2147483648) = true := by simpa using h1
      have hb := Lib.hid (decide_eq_true (show Fine x from ⟨h0, h1⟩))
      go_enter Try.func34, Try.ntmps34
      go_wp2_with fail
      go_ret
      exact ⟨by rw [hb.out]; rfl, rfl⟩
    · have hd2 : decide (x ≤ 2147483648) = false := by simpa using h1
      have hb := Lib.hid (decide_eq_false (fun hh : Fine x => h1 hh.2))
      go_enter Try.func34, Try.ntmps34
      go_wp2_with fail
      go_ret
      exact ⟨by rw [hb.out]; rfl, rfl⟩
  · have hd : decide (0 ≤ x) = false := by simpa using h0
    have hb := Lib.hid (decide_eq_false (fun hh : Fine x => h0 hh.1))
    go_enter Try.func34, Try.ntmps34
    go_wp2_with fail
    go_ret
    exact ⟨by rw [hb.out]; rfl, rfl⟩
end
end Go.Proofs.Ytlnokijfmkldkaa
