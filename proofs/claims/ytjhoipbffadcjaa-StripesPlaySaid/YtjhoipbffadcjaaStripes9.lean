/- The statements of layer 13: StripesOrder: plain facts. -/
import Derived.Test.YtjhoipbffadcjaaStripes8
namespace Go.Proofs.Ytjhoipbffadcjaa
open Go.RowKit Go.Sep
def flt (t : Int) (l : List Int) : List Int := l.filter (fun x => bits .and .i64 x 7 == t)
theorem flt_append (t : Int) (a b : List Int) : flt t (a ++ b) = flt t a ++ flt t b := List.filter_append ..
theorem flt_one (t x : Int) : flt t [x] = if bits .and .i64 x 7 = t then [x] else [] := by
  unfold flt
  by_cases h : bits .and .i64 x 7 = t
  · rw [if_pos h]; simp [h]
  · rw [if_neg h]; simp [h]
theorem flt_nil (t : Int) : flt t [] = [] := rfl
theorem and7 (n : Nat) (h : n < 9223372036854775808) : bits .and .i64 (n : Int) 7 = ((n % 8 : Nat) : Int) := by
  have e : bits .and .i64 (n : Int) ((7 : Nat) : Int) = IntKind.i64.wrap ((BitVec.ofInt 64 (n : Int) &&& BitVec.ofInt 64 ((7 : Nat) : Int)).toNat : Int) := rfl
  have h2 : n &&& 7 = n % 8 := Nat.and_two_pow_sub_one_eq_mod n 3
  show bits .and .i64 (n : Int) ((7 : Nat) : Int) = _
  rw [e, BitVec.toNat_and, BitVec.ofInt_natCast, BitVec.ofInt_natCast, BitVec.toNat_ofNat, BitVec.toNat_ofNat, Nat.mod_eq_of_lt (a := n) (by omega), Nat.mod_eq_of_lt (a := 7) (by omega), h2, IntKind.wrap_i64]
  omega
/-- the number that is offered, and whose it is -/
theorem and7_of {x : Int} (h0 : 0 ≤ x) (h1 : x ≤ 9223372036854775807) : ∃ t : Nat, t < 8 ∧ bits .and .i64 x 7 = (t : Int) ∧ ∀ k : Nat, k ≤ 100000 → bits .and .i64 ((t : Int) + 8 * (k : Int)) 7 = (t : Int) := by
  obtain ⟨n, rfl⟩ := Int.eq_ofNat_of_zero_le h0
  refine ⟨n % 8, by omega, and7 n (by omega), fun k hk => ?_⟩
  have e : (((n % 8 : Nat)) : Int) + 8 * (k : Int) = ((n % 8 + 8 * k : Nat) : Int) := by omega
  rw [e, and7 _ (by omega)]
  congr 1
  omega
/-- what was taken, with what the thread's own ring holds, is what was put in, thread by thread -/
structure Ord (m : Nat) (pl : Int → Nat) (L : Nat → List Int) (IN OUT : List Int) : Prop where
  own : ∀ t, flt t OUT ++ flt t (L (pl t)) = flt t IN
  oth : ∀ t j, j < m → j ≠ pl t → flt t (L j) = []
  len : IN.length = OUT.length + sumL L m
theorem Ord.offer {m : Nat} {pl : Int → Nat} {L : Nat → List Int} {IN OUT : List Int} (h : Ord m pl L IN OUT) {v t : Int} (hv : bits .and .i64 v 7 = t) (hp : pl t < m) : Ord m pl (updF L (pl t) (L (pl t) ++ [v])) (IN ++ [v]) OUT := by
  have e1 : ∀ t', flt t' [v] = if t = t' then [v] else [] := fun t' => by rw [flt_one, hv]
  refine ⟨fun t' => ?_, fun t' j hj hne => ?_, ?_⟩
  · rw [flt_append, ← h.own t', e1]
    by_cases e : pl t' = pl t
    · rw [e, updF_self, flt_append, e1, ← e, List.append_assoc]
    · rw [updF_ne _ _ e, if_neg (fun e2 => e (by rw [e2])), List.append_nil]
  · by_cases e : j = pl t
    · rw [e, updF_self, flt_append, e1, if_neg (fun e2 => hne (by rw [← e2]; exact e)), List.append_nil, ← e]
      exact h.oth t' j hj hne
    · rw [updF_ne _ _ e]
      exact h.oth t' j hj hne
  · have := sumL_updF L (pl t) (L (pl t) ++ [v]) m hp
    rw [List.length_append, List.length_singleton] at this ⊢
    have := h.len
    omega
theorem Ord.take {m : Nat} {pl : Int → Nat} {L : Nat → List Int} {IN OUT K : List Int} (h : Ord m pl L IN OUT) {k : Nat} {v : Int} (hk : k < m) (hL : L k = v :: K) : Ord m pl (updF L k K) IN (OUT ++ [v]) := by
  have e1 : ∀ t', flt t' (L k) = flt t' [v] ++ flt t' K := fun t' => by rw [hL, ← flt_append]; rfl
  refine ⟨fun t' => ?_, fun t' j hj hne => ?_, ?_⟩
  · rw [← h.own t', flt_append]
    by_cases e : pl t' = k
    · rw [e, updF_self, e1, List.append_assoc]
    · rw [updF_ne _ _ e]
      have := h.oth t' k hk (Ne.symm e)
      rw [e1] at this
      rw [(List.append_eq_nil_iff.1 this).1, List.append_nil]
  · by_cases e : j = k
    · rw [e, updF_self]
      have := h.oth t' k hk (by rw [← e]; exact hne)
      rw [e1] at this
      exact (List.append_eq_nil_iff.1 this).2
    · rw [updF_ne _ _ e]
      exact h.oth t' j hj hne
  · have := sumL_updF L k K m hk
    have e2 := h.len
    rw [hL, List.length_cons] at this
    rw [List.length_append, List.length_singleton]
    omega
theorem flt_cat {pl : Nat} {L : Nat → List Int} {t : Int} : ∀ m, (∀ j, j < m → j ≠ pl → flt t (L j) = []) → flt t (catTo L m) = if pl < m then flt t (L pl) else []
  | 0, _ => rfl
  | m + 1, h => by
    rw [catTo, flt_append, flt_cat m (fun j hj => h j (by omega))]
    by_cases e : pl = m
    · subst e
      rw [if_neg (by omega), if_pos (by omega)]; rfl
    · rw [h m (by omega) (Ne.symm e), List.append_nil]
      by_cases e2 : pl < m
      · rw [if_pos e2, if_pos (by omega)]
      · rw [if_neg e2, if_neg (by omega)]
theorem Ord.done {m : Nat} {pl : Int → Nat} {L : Nat → List Int} {IN OUT : List Int} (h : Ord m pl L IN OUT) (hp : ∀ t, pl t < m) (t : Int) : flt t (OUT ++ catTo L m) = flt t IN := by
  rw [flt_append, flt_cat m (h.oth t), if_pos (hp t), h.own]
theorem flt_take (t : Int) (l : List Int) (i : Nat) (hi : i < l.length) : flt t (l.take (i + 1)) = flt t (l.take i) ++ if bits .and .i64 (l.getD i 0) 7 = t then [l.getD i 0] else [] := by
  have e : l.getD i 0 = l[i] := by simp [List.getD, hi]
  rw [List.take_succ_eq_append_getElem hi, flt_append, flt_one, e]
theorem flt_len (t : Int) (l : List Int) (i : Nat) : (flt t (l.take i)).length ≤ i := by
  have h1 := List.length_filter_le (fun x => bits .and .i64 x 7 == t) (l.take i)
  have h2 := List.length_take_le i l
  unfold flt
  omega
/-- either nothing is held, or there is a first one that is taken -/
theorem first_of (L : Nat → List Int) : ∀ m, (∀ i, i < m → L i = []) ∨ ∃ k x K, k < m ∧ (∀ i, i < k → L i = []) ∧ L k = x :: K
  | 0 => Or.inl (fun i hi => absurd hi (Nat.not_lt_zero _))
  | m + 1 => by
    rcases first_of L m with h | ⟨k, x, K, hk, h1, h2⟩
    · cases hL : L m with
      | nil =>
        refine Or.inl (fun i hi => ?_)
        by_cases e : i = m
        · rw [e, hL]
        · exact h i (by omega)
      | cons x K => exact Or.inr ⟨m, x, K, by omega, h, hL⟩
    · exact Or.inr ⟨k, x, K, by omega, h1, h2⟩
theorem sumL_zero {L : Nat → List Int} : ∀ {m : Nat}, (∀ i, i < m → L i = []) → sumL L m = 0
  | 0, _ => rfl
  | m + 1, h => by rw [sumL, sumL_zero (fun i hi => h i (by omega)), h m (by omega)]; rfl
theorem sumG_updF (G : Nat → Nat) (p x : Nat) : ∀ m, p < m → sumG (updF G p x) m + G p = sumG G m + x
  | 0, h => absurd h (Nat.not_lt_zero _)
  | m + 1, h => by
    rw [sumG, sumG]
    by_cases e : p = m
    · subst e
      rw [updF_self]
      have : ∀ k, k ≤ p → sumG (updF G p x) k = sumG G k := by
        intro k
        induction k with
        | zero => intro _; rfl
        | succ k ih => intro hk; rw [sumG, sumG, ih (by omega), updF_ne _ _ (by omega)]
      rw [this p (Nat.le_refl _)]
      omega
    · have := sumG_updF G p x m (by omega)
      rw [updF_ne _ _ (by omega)]
      omega
theorem sumG_ge (G : Nat → Nat) (p : Nat) : ∀ m, p < m → G p ≤ sumG G m
  | 0, h => absurd h (Nat.not_lt_zero _)
  | m + 1, h => by
    rw [sumG]
    by_cases e : p = m
    · subst e; omega
    · have := sumG_ge G p m (by omega)
      omega
theorem off_full {n : Nat} {L : Nat → List Int} {p : Nat} {v : Int} (h : ¬ (L p).length < n) : offL n L p v = L := by unfold offL; rw [if_neg h, updF_id]
theorem offG_full {n : Nat} {L : Nat → List Int} {G : Nat → Nat} {p : Nat} (h : ¬ (L p).length < n) : offG n L G p = updF G p (G p + 1) := by unfold offG; rw [if_neg h]
end Go.Proofs.Ytjhoipbffadcjaa
