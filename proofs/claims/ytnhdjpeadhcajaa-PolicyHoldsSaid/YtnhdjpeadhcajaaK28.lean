/- Merged texts: Layer 7: the rows as plain lists: bounds, sums, what a step leaves. -/
import Derived.Test.YtnhdjpeadhcajaaK25
namespace Go.Proofs.Ytnhdjpeadhcajaa
open Go.RowKit Go.Sep DqPure
theorem and_bd (x : Int) (m : Nat) (hm : m ≤ 1000000) : ∃ p : Nat, p ≤ m ∧ bits .and .i64 x (m : Int) = (p : Int) := by
  have e : bits .and .i64 x (m : Int) = IntKind.i64.wrap ((BitVec.ofInt 64 x &&& BitVec.ofInt 64 (m : Int)).toNat : Int) := rfl
  rw [e, BitVec.toNat_and, BitVec.ofInt_natCast, BitVec.toNat_ofNat, Nat.mod_eq_of_lt (a := m) (by omega)]
  have h : (BitVec.ofInt 64 x).toNat &&& m ≤ m := Nat.and_le_right
  exact ⟨_, h, by rw [IntKind.wrap_i64]; omega⟩
theorem sumW_append : ∀ xs ys : List (Int × Int), sumW (xs ++ ys) = sumW xs + sumW ys
  | [], ys => by show sumW ys = 0 + sumW ys; omega
  | p :: xs, ys => by
    show p.2 + sumW (xs ++ ys) = p.2 + sumW xs + sumW ys
    rw [sumW_append xs ys]; omega
theorem sumW_bd : ∀ l : List (Int × Int), (∀ p ∈ l, 0 ≤ p.2 ∧ p.2 ≤ 2147483648) → 0 ≤ sumW l ∧ sumW l ≤ (l.length : Int) * 2147483648
  | [], _ => by constructor <;> decide
  | p :: l, h => by
    have h1 := sumW_bd l (fun q hq => h q (List.mem_cons_of_mem _ hq))
    have h2 := h p List.mem_cons_self
    rw [sumW, List.length_cons]
    omega
theorem lst2_snoc (x z : Int) : ∀ (l : List (Int × Int)) (p : Int × Int), lastI.lst2 p (l ++ [(x, z)]) = (x, z)
  | [], _ => rfl
  | q :: l, _ => lst2_snoc x z l q
theorem lastI_snoc (l : List (Int × Int)) (x z : Int) : lastI (l ++ [(x, z)]) = x := by
  cases l with
  | nil => rfl
  | cons p l => show (lastI.lst2 p (l ++ [(x, z)])).1 = x; rw [lst2_snoc]
/-- the sum of the rows below m -/
def totw (st : Nat → List (Int × Int)) : Nat → Int
  | 0 => 0
  | k + 1 => totw st k + sumW (st k)
theorem totw_out (st : Nat → List (Int × Int)) {k : Nat} (l : List (Int × Int)) : ∀ (m : Nat), m ≤ k → totw (updS st k l) m = totw st m
  | 0, _ => rfl
  | m + 1, h => by rw [totw, totw, totw_out (k := k) st l m (by omega), updS_ne (i := k) (j := m) st l (by omega)]
theorem totw_upd (st : Nat → List (Int × Int)) {k : Nat} (l : List (Int × Int)) : ∀ (m : Nat), k < m → totw (updS st k l) m + sumW (st k) = totw st m + sumW l
  | 0, h => absurd h (Nat.not_lt_zero _)
  | m + 1, h => by
    rw [totw, totw]
    by_cases e : k = m
    · subst e
      rw [totw_out (k := k) st l k (Nat.le_refl _), updS_same]; omega
    · have := totw_upd (k := k) st l m (by omega)
      rw [updS_ne (i := k) (j := m) st l (by omega)]; omega
theorem totw_nil : ∀ m, totw (fun _ => []) m = 0
  | 0 => rfl
  | m + 1 => by rw [totw, totw_nil m]; rfl
theorem totl_nil : ∀ m, totl (fun _ => ([] : List (Int × Int))) m = 0
  | 0 => rfl
  | m + 1 => by rw [totl, totl_nil m]; rfl
theorem absent_or (m : Nat) (st : Nat → List (Int × Int)) (x : Int) : Absent m st x ∨ ∃ (k : Nat) (xs : List (Int × Int)) (z : Int) (ys : List (Int × Int)), k < m ∧ st k = xs ++ (x, z) :: ys := by
  by_cases h : Absent m st x
  · exact .inl h
  · right
    unfold Absent at h
    simp only [Classical.not_forall] at h
    obtain ⟨k, hk, p, hp, hx⟩ := h
    obtain ⟨xs, ys, hs⟩ := List.append_of_mem hp
    obtain ⟨a, z⟩ := p
    simp only [ne_eq, Classical.not_not] at hx
    subst hx
    exact ⟨k, xs, z, ys, hk, hs⟩
section
variable {bx m n : Nat} {st : Nat → List (Int × Int)} {r F : Own} {w0 w : World}
theorem DqAt.fine (h : DqAt bx m n st r) {k : Nat} (hk : k < m) {p : Int × Int} (hp : p ∈ st k) : (1 ≤ p.1 ∧ p.1 ≤ 65536) ∧ 0 ≤ p.2 ∧ p.2 ≤ 2147483648 := by
  obtain ⟨v, bm, q, L, S, nx, pv, li, id, wt, LW, LN, f, o, h, hst⟩ := h
  rw [hst k hk] at hp
  obtain ⟨b, hb, rfl⟩ := List.mem_map.1 hp
  obtain ⟨h1, h2, h3, h4⟩ := h.l.ir k hk b hb
  exact ⟨⟨h1, h2⟩, h3, h4⟩
theorem DqAt.uniq (h : DqAt bx m n st r) {j k : Nat} (hj : j < m) (hk : k < m) {p q : Int × Int} (hp : p ∈ st j) (hq : q ∈ st k) (e : p.1 = q.1) : j = k ∧ p = q := by
  obtain ⟨v, bm, qq, L, S, nx, pv, li, id, wt, LW, LN, f, o, h, hst⟩ := h
  rw [hst j hj] at hp
  rw [hst k hk] at hq
  obtain ⟨b, hb, rfl⟩ := List.mem_map.1 hp
  obtain ⟨c, hc, rfl⟩ := List.mem_map.1 hq
  have h1 := h.fm j hj b hb
  have h2 := h.fm k hk c hc
  simp only at e
  rw [e] at h1
  obtain rfl : b = c := by omega
  refine ⟨?_, rfl⟩
  by_cases e : j = k
  · exact e
  · exact absurd hc (h.l.dj j k hj hk e b hb)
theorem DqAt.nd (h : DqAt bx m n st r) {k : Nat} (hk : k < m) : ((st k).map (·.1)).Nodup := by
  obtain ⟨v, bm, qq, L, S, nx, pv, li, id, wt, LW, LN, f, o, h, hst⟩ := h
  rw [hst k hk, List.map_map]
  refine List.pairwise_map.2 (List.Pairwise.imp_of_mem ?_ (h.l.nd k hk))
  intro b c hb hc hne e
  refine hne ?_
  have h1 := h.fm k hk b hb
  have h2 := h.fm k hk c hc
  simp only [Function.comp] at e
  rw [e] at h1
  omega
theorem DqAt.len (h : DqAt bx m n st r) {k : Nat} (hk : k < m) : (st k).length ≤ n := by
  obtain ⟨v, bm, qq, L, S, nx, pv, li, id, wt, LW, LN, f, o, h, hst⟩ := h
  rw [hst k hk, List.length_map]
  exact Nat.le_trans (totl_ge S m hk) h.tot
theorem DqAt.m16 (h : DqAt bx m n st r) : m ≤ 16 := by
  obtain ⟨v, bm, qq, L, S, nx, pv, li, id, wt, LW, LN, f, o, h, -⟩ := h
  exact h.m16
theorem DqAt.sum (h : DqAt bx m n st r) {k : Nat} (hk : k < m) : 0 ≤ sumW (st k) ∧ sumW (st k) ≤ (n : Int) * 2147483648 := by
  have h1 := sumW_bd (st k) (fun p hp => (h.fine hk hp).2)
  have h2 := h.len hk
  omega
theorem DqAt.tot_bd (h : DqAt bx m n st r) : ∀ k, k ≤ m → 0 ≤ totw st k ∧ totw st k ≤ (k : Int) * ((n : Int) * 2147483648) ∧ totl st k ≤ k * n
  | 0, _ => by simp [totw, totl]
  | k + 1, hk => by
    have h1 := h.tot_bd k (by omega)
    have h2 := h.sum (k := k) (by omega)
    have h3 := h.len (k := k) (by omega)
    rw [totw, totl]
    have e1 : ((k + 1 : Nat) : Int) * ((n : Int) * 2147483648) = (k : Int) * ((n : Int) * 2147483648) + (n : Int) * 2147483648 := by
      rw [Int.natCast_add, Int.add_mul]; omega
    have e2 : (k + 1) * n = k * n + n := by rw [Nat.add_mul, Nat.one_mul]
    rw [e1, e2]
    omega
/-- A move, whatever comes: it is refused and all is as it was, or the number is at the row's end. -/
theorem dq_move_any (hn : n ≤ 1000000) (x t : Int) (hx : wfk x) (hD : DqAt bx m n st r) :
    (∃ (e a z : Int), (e = 1 ∨ e = 3) ∧ (∀ W (X : Own), Owned w0 W (r ++ X) → Calls Try.prog 56 #[.pointer (some ⟨bx, 0, none⟩), .int .i64 x] W fun e w' => e = .returned (.tuple #[.int .i64 a, .int .i64 z]) ∧ Below W.heap.size W w') ∧
      (∀ W (X : Own), Owned w0 W (r ++ X) → Calls Try.prog 57 #[.pointer (some ⟨bx, 0, none⟩), .int .i64 x, .int .i64 t] W fun e' w' => e' = .returned (.int .i64 e) ∧ Below W.heap.size W w')) ∨
    (∃ (a z : Int) (j : Nat) (st' : Nat → List (Int × Int)), t = (j : Int) ∧ j < m ∧ lastI (st' j) = x ∧ totw st' m = totw st m ∧ totl st' m = totl st m ∧
      (∀ W (X : Own), Owned w0 W (r ++ X) → Calls Try.prog 56 #[.pointer (some ⟨bx, 0, none⟩), .int .i64 x] W fun e w' => e = .returned (.tuple #[.int .i64 a, .int .i64 z]) ∧ Below W.heap.size W w') ∧
      (∀ W (X : Own), Owned w0 W (r ++ X) → Calls Try.prog 57 #[.pointer (some ⟨bx, 0, none⟩), .int .i64 x, .int .i64 t] W fun e' w' => e' = .returned (.int .i64 0) ∧ ∃ r', DqAt bx m n st' r' ∧ Owned w0 w' (r' ++ X)) ∧
      (∀ r' W (X : Own), DqAt bx m n st' r' → Owned w0 W (r' ++ X) → Calls Try.prog 56 #[.pointer (some ⟨bx, 0, none⟩), .int .i64 x] W fun e w' => e = .returned (.tuple #[.int .i64 t, .int .i64 z]) ∧ Below W.heap.size W w')) := by
  rcases absent_or m st x with ha | ⟨k, xs, z, ys, hk, hs⟩
  · exact .inl ⟨3, -1, 0, .inr rfl, fun W X hO => dq_of_none hD hx ha hO, fun W X hO => dq_move_none hD hx ha hO⟩
  · by_cases ht : 0 ≤ t ∧ t < (m : Int)
    · right
      obtain ⟨j, rfl⟩ : ∃ j : Nat, t = (j : Int) := ⟨t.toNat, by omega⟩
      have hj : j < m := by omega
      refine ⟨k, z, j, _, rfl, hj, ?_, ?_, ?_, fun W X hO => dq_of_some hD hx hk hs hO, fun W X hO => dq_move_some hn hD hk hj hs hO, fun r' W X hD' hO => ?_⟩
      · rw [updS_same, lastI_snoc]
      · have h1 := totw_upd st (xs ++ ys) m hk
        have h2 := totw_upd (updS st k (xs ++ ys)) (updS st k (xs ++ ys) j ++ [(x, z)]) m hj
        rw [hs, sumW_append, sumW_append, sumW] at h1
        rw [sumW_append, sumW, sumW] at h2
        omega
      · have h1 := totl_upd st (xs ++ ys) m hk
        have h2 := totl_upd (updS st k (xs ++ ys)) (updS st k (xs ++ ys) j ++ [(x, z)]) m hj
        rw [hs] at h1
        simp only [List.length_append, List.length_cons, List.length_nil] at h1 h2
        omega
      · exact dq_of_some (ys := []) hD' hx hj (by rw [updS_same]) hO
    · exact .inl ⟨1, k, z, .inl rfl, fun W X hO => dq_of_some hD hx hk hs hO, fun W X hO => dq_move_bad hD hk hs ht hO⟩
/-- A push, whatever comes. -/
theorem dq_push_any (hn : n ≤ 1000000) (p : Nat) (i x : Int) (hp : p < m) (hx : 0 ≤ x ∧ x ≤ 2147483648) (hD : DqAt bx m n st r) :
    (∃ e : Int, (e = 1 ∨ e = 5) ∧ (∀ W (X : Own), Owned w0 W (r ++ X) → Calls Try.prog 28 #[.pointer (some ⟨bx, 0, none⟩), .int .i64 (p : Int), .int .i64 i, .int .i64 x] W fun e' w' => e' = .returned (.int .i64 e) ∧ Below W.heap.size W w')) ∨
    (Absent m st i ∧ (1 ≤ i ∧ i ≤ 65536) ∧ ∀ W (X : Own), Owned w0 W (r ++ X) → Calls Try.prog 28 #[.pointer (some ⟨bx, 0, none⟩), .int .i64 (p : Int), .int .i64 i, .int .i64 x] W fun e' w' => e' = .returned (.int .i64 0) ∧ ∃ r', DqAt bx m (n + 1) (updS st p (st p ++ [(i, x)])) r' ∧ Owned w0 w' (r' ++ X)) := by
  by_cases hi : 1 ≤ i ∧ i ≤ 65536
  · rcases absent_or m st i with ha | ⟨k, xs, z, ys, hk, hs⟩
    · exact .inr ⟨ha, hi, fun W X hO => dq_push_new hn hD hp ⟨hi.1, hi.2, hx.1, hx.2⟩ ha hO⟩
    · exact .inl ⟨5, .inr rfl, fun W X hO => dq_push_dup hD hp ⟨hi.1, hi.2, hx.1, hx.2⟩ hk hs hO⟩
  · exact .inl ⟨1, .inl rfl, fun W X hO => dq_push_bad hD (fun h => hi ⟨h.2.1, h.2.2.1⟩) hO⟩
end
end Go.Proofs.Ytnhdjpeadhcajaa
