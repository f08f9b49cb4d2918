/- Layer 7: each call as a step on plain lists, whatever its arguments. -/
import Derived.Test.YtlnokijfmkldkaaDq12
namespace Go.Proofs.Ytlnokijfmkldkaa
open Go.RowKit Go.Sep DqPure
abbrev Sts := Nat → List (Int × Int)
def Good (m : Nat) (k : Int) : Prop := 0 ≤ k ∧ k < (m : Int)
instance (m : Nat) (k : Int) : Decidable (Good m k) := inferInstanceAs (Decidable (0 ≤ k ∧ k < (m : Int)))
def Fine (x : Int) : Prop := 0 ≤ x ∧ x ≤ 2147483648
instance (x : Int) : Decidable (Fine x) := inferInstanceAs (Decidable (0 ≤ x ∧ x ≤ 2147483648))
inductive PushR (m : Nat) (st : Sts) (k i x : Int) : Int → Sts → Prop
  | bad (h : ¬ (Good m k ∧ 1 ≤ i ∧ i ≤ 65536 ∧ Fine x)) : PushR m st k i x 1 st
  | dup (h : Good m k ∧ 1 ≤ i ∧ i ≤ 65536 ∧ Fine x) (ha : ¬ Absent m st i) : PushR m st k i x 5 st
  | new (h : Good m k ∧ 1 ≤ i ∧ i ≤ 65536 ∧ Fine x) (ha : Absent m st i) : PushR m st k i x 0 (updS st k.toNat (st k.toNat ++ [(i, x)]))
inductive UnlinkR (m : Nat) (st : Sts) (i : Int) : Int → Sts → Prop
  | none (ha : Absent m st i) : UnlinkR m st i 3 st
  | some (k : Nat) (xs ys : List (Int × Int)) (z : Int) (hk : k < m) (hs : st k = xs ++ (i, z) :: ys) : UnlinkR m st i 0 (updS st k (xs ++ ys))
inductive MoveR (m : Nat) (st : Sts) (i k : Int) : Int → Sts → Prop
  | none (ha : Absent m st i) : MoveR m st i k 3 st
  | bad (ha : ¬ Absent m st i) (hk : ¬ Good m k) : MoveR m st i k 1 st
  | some (j : Nat) (xs ys : List (Int × Int)) (z : Int) (hj : j < m) (hs : st j = xs ++ (i, z) :: ys) (hk : Good m k) : MoveR m st i k 0 (updS (updS st j (xs ++ ys)) k.toNat (updS st j (xs ++ ys) k.toNat ++ [(i, z)]))
inductive ReweighR (m : Nat) (st : Sts) (i x : Int) : Int → Sts → Prop
  | none (ha : Absent m st i) : ReweighR m st i x 3 st
  | bad (ha : ¬ Absent m st i) (hx : ¬ Fine x) : ReweighR m st i x 1 st
  | some (j : Nat) (xs ys : List (Int × Int)) (z : Int) (hj : j < m) (hs : st j = xs ++ (i, z) :: ys) (hx : Fine x) : ReweighR m st i x 0 (updS st j (xs ++ (i, x) :: ys))
inductive OfR (m : Nat) (st : Sts) (i : Int) : Int → Int → Prop
  | none (ha : Absent m st i) : OfR m st i (-1) 0
  | some (j : Nat) (xs ys : List (Int × Int)) (z : Int) (hj : j < m) (hs : st j = xs ++ (i, z) :: ys) : OfR m st i (j : Int) z
theorem there_of {m : Nat} {st : Sts} {i z : Int} {k : Nat} {xs ys : List (Int × Int)} (hk : k < m) (hs : st k = xs ++ (i, z) :: ys) : ¬ Absent m st i := fun h => h k hk (i, z) (by rw [hs]; simp) rfl
section
variable {bx m n : Nat} {st : Sts} {r : Own} {w0 : World}
theorem dq_push_r (hn : n ≤ 1000000) (k i x : Int) (hD : DqAt bx m n st r) : ∃ c st', PushR m st k i x c st' ∧ ∀ W (X : Own), Owned w0 W (r ++ X) →
    Calls Try.prog 10 #[.pointer (some ⟨bx, 0, none⟩), .int .i64 k, .int .i64 i, .int .i64 x] W fun e w' => e = .returned (.int .i64 c) ∧ ∃ n' r', n' ≤ n + 1 ∧ DqAt bx m n' st' r' ∧ Owned w0 w' (r' ++ X) := by
  by_cases h : Good m k ∧ 1 ≤ i ∧ i ≤ 65536 ∧ Fine x
  · obtain ⟨j, rfl⟩ : ∃ j : Nat, k = (j : Int) := ⟨k.toNat, by have := h.1.1; omega⟩
    have hj : j < m := by have := h.1.2; omega
    rcases absent_or m st i with ha | ⟨l, xs, z, ys, hl, hs⟩
    · refine ⟨0, _, .new h ha, fun W X hO => (dq_push_new hn hD hj ⟨h.2.1, h.2.2.1, h.2.2.2.1, h.2.2.2.2⟩ ha hO).mono ?_⟩
      rintro e w' ⟨rfl, r', hr', hO'⟩
      exact ⟨rfl, n + 1, r', Nat.le_refl _, hr', hO'⟩
    · refine ⟨5, _, .dup h (there_of hl hs), fun W X hO => (dq_push_dup hD hj ⟨h.2.1, h.2.2.1, h.2.2.2.1, h.2.2.2.2⟩ hl hs hO).mono ?_⟩
      rintro e w' ⟨rfl, hb⟩
      exact ⟨rfl, n, r, Nat.le_succ _, hD, hO.under hb⟩
  · refine ⟨1, _, .bad h, fun W X hO => (dq_push_bad hD (fun h' => h ⟨h'.1, h'.2.1, h'.2.2.1, h'.2.2.2⟩) hO).mono ?_⟩
    rintro e w' ⟨rfl, hb⟩
    exact ⟨rfl, n, r, Nat.le_succ _, hD, hO.under hb⟩
theorem dq_unlink_r (hn : n ≤ 1000000) (i : Int) (hi : wfk i) (hD : DqAt bx m n st r) : ∃ c st', UnlinkR m st i c st' ∧ ∀ W (X : Own), Owned w0 W (r ++ X) →
    Calls Try.prog 14 #[.pointer (some ⟨bx, 0, none⟩), .int .i64 i] W fun e w' => e = .returned (.int .i64 c) ∧ ∃ n' r', n' ≤ n + 1 ∧ DqAt bx m n' st' r' ∧ Owned w0 w' (r' ++ X) := by
  rcases absent_or m st i with ha | ⟨l, xs, z, ys, hl, hs⟩
  · refine ⟨3, _, .none ha, fun W X hO => (dq_unlink_none hD hi ha hO).mono ?_⟩
    rintro e w' ⟨rfl, hb⟩
    exact ⟨rfl, n, r, Nat.le_succ _, hD, hO.under hb⟩
  · refine ⟨0, _, .some l xs ys z hl hs, fun W X hO => (dq_unlink_some hn hD hl hs hO).mono ?_⟩
    rintro e w' ⟨rfl, r', hr', hO'⟩
    exact ⟨rfl, n, r', Nat.le_succ _, hr', hO'⟩
theorem dq_move_r (hn : n ≤ 1000000) (i k : Int) (hi : wfk i) (hD : DqAt bx m n st r) : ∃ c st', MoveR m st i k c st' ∧ ∀ W (X : Own), Owned w0 W (r ++ X) →
    Calls Try.prog 17 #[.pointer (some ⟨bx, 0, none⟩), .int .i64 i, .int .i64 k] W fun e w' => e = .returned (.int .i64 c) ∧ ∃ n' r', n' ≤ n + 1 ∧ DqAt bx m n' st' r' ∧ Owned w0 w' (r' ++ X) := by
  rcases absent_or m st i with ha | ⟨l, xs, z, ys, hl, hs⟩
  · refine ⟨3, _, .none ha, fun W X hO => (dq_move_none hD hi ha hO).mono ?_⟩
    rintro e w' ⟨rfl, hb⟩
    exact ⟨rfl, n, r, Nat.le_succ _, hD, hO.under hb⟩
  · by_cases hk : Good m k
    · obtain ⟨j, rfl⟩ : ∃ j : Nat, k = (j : Int) := ⟨k.toNat, by have := hk.1; omega⟩
      refine ⟨0, _, .some l xs ys z hl hs hk, fun W X hO => (dq_move_some hn hD hl (by have := hk.2; omega) hs hO).mono ?_⟩
      rintro e w' ⟨rfl, r', hr', hO'⟩
      exact ⟨rfl, n, r', Nat.le_succ _, hr', hO'⟩
    · refine ⟨1, _, .bad (there_of hl hs) hk, fun W X hO => (dq_move_bad hD hl hs hk hO).mono ?_⟩
      rintro e w' ⟨rfl, hb⟩
      exact ⟨rfl, n, r, Nat.le_succ _, hD, hO.under hb⟩
theorem dq_reweigh_r (hn : n ≤ 1000000) (i x : Int) (hi : wfk i) (hD : DqAt bx m n st r) : ∃ c st', ReweighR m st i x c st' ∧ ∀ W (X : Own), Owned w0 W (r ++ X) →
    Calls Try.prog 24 #[.pointer (some ⟨bx, 0, none⟩), .int .i64 i, .int .i64 x] W fun e w' => e = .returned (.int .i64 c) ∧ ∃ n' r', n' ≤ n + 1 ∧ DqAt bx m n' st' r' ∧ Owned w0 w' (r' ++ X) := by
  rcases absent_or m st i with ha | ⟨l, xs, z, ys, hl, hs⟩
  · refine ⟨3, _, .none ha, fun W X hO => (dq_reweigh_none hD hi ha hO).mono ?_⟩
    rintro e w' ⟨rfl, hb⟩
    exact ⟨rfl, n, r, Nat.le_succ _, hD, hO.under hb⟩
  · by_cases hx : Fine x
    · refine ⟨0, _, .some l xs ys z hl hs hx, fun W X hO => (dq_reweigh_some hn hD hl hs hx hO).mono ?_⟩
      rintro e w' ⟨rfl, r', hr', hO'⟩
      exact ⟨rfl, n, r', Nat.le_succ _, hr', hO'⟩
    · refine ⟨1, _, .bad (there_of hl hs) hx, fun W X hO => (dq_reweigh_bad hD hl hs hx hO).mono ?_⟩
      rintro e w' ⟨rfl, hb⟩
      exact ⟨rfl, n, r, Nat.le_succ _, hD, hO.under hb⟩
theorem dq_of_r (i : Int) (hi : wfk i) (hD : DqAt bx m n st r) : ∃ a z, OfR m st i a z ∧ ∀ W (X : Own), Owned w0 W (r ++ X) →
    Calls Try.prog 16 #[.pointer (some ⟨bx, 0, none⟩), .int .i64 i] W fun e w' => e = .returned (.tuple #[.int .i64 a, .int .i64 z]) ∧ Below W.heap.size W w' := by
  rcases absent_or m st i with ha | ⟨l, xs, z, ys, hl, hs⟩
  · exact ⟨-1, 0, .none ha, fun W X hO => dq_of_none hD hi ha hO⟩
  · exact ⟨l, z, .some l xs ys z hl hs, fun W X hO => dq_of_some hD hi hl hs hO⟩
end
end Go.Proofs.Ytlnokijfmkldkaa
