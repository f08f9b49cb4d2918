/- Merged texts: Layer 11: the three rows, by the deque's contracts. Layer 11: the three rows: Push, Move, Of. -/
import Derived.Test.YtnhdjpeadhcajaaK33
namespace Go.Proofs.Ytnhdjpeadhcajaa
open Go.RowKit Go.Sep DqPure
theorem in_iff {id : Int} {l : List (Int × Int)} : inL id l = true ↔ ∃ p ∈ l, p.1 = id := by
  unfold inL
  rw [List.any_eq_true]
  constructor
  · rintro ⟨p, hp, h⟩
    exact ⟨p, hp, by simpa using h⟩
  · rintro ⟨p, hp, h⟩
    exact ⟨p, hp, by simpa using h⟩
theorem rem_out {id : Int} {l : List (Int × Int)} (h : inL id l = false) : remL id l = l ∧ ∀ x, setL id x l = l := by
  have h1 : ∀ p ∈ l, p.1 ≠ id := fun p hp e => by
    rw [in_iff.2 ⟨p, hp, e⟩] at h
    cases h
  refine ⟨List.filter_eq_self.2 (fun p hp => by simpa using h1 p hp), fun x => ?_⟩
  unfold setL
  conv => rhs; rw [← List.map_id l]
  exact List.map_congr_left (fun p hp => by rw [if_neg (h1 p hp)]; rfl)
theorem split_in {id : Int} : ∀ {l : List (Int × Int)}, (idsL l).Nodup → inL id l = true → ∃ xs z ys, l = xs ++ (id, z) :: ys ∧ wtL id l = z ∧ remL id l = xs ++ ys ∧ (∀ x, setL id x l = xs ++ (id, x) :: ys)
  | [], _, h => by cases h
  | p :: l, hn, h => by
    have hn2 : p.1 ∉ idsL l ∧ (idsL l).Nodup := List.nodup_cons.1 hn
    by_cases e : p.1 = id
    · have hout : inL id l = false := by
        rw [Bool.eq_false_iff]
        intro hc
        obtain ⟨q, hq, e2⟩ := in_iff.1 hc
        exact hn2.1 (List.mem_map.2 ⟨q, hq, by rw [e2, e]⟩)
      obtain ⟨h1, h2⟩ := rem_out hout
      refine ⟨[], p.2, l, ?_, ?_, ?_, ?_⟩
      · rw [← e]
        rfl
      · unfold wtL
        rw [List.find?_cons_of_pos (by simpa using e)]
        rfl
      · show List.filter _ (p :: l) = _
        rw [List.filter_cons_of_neg (by simpa using e)]
        exact h1
      · intro x
        show List.map _ (p :: l) = _
        rw [List.map_cons, if_pos e]
        exact congrArg _ (h2 x)
    · obtain ⟨xs, z, ys, h1, h2, h3, h4⟩ := split_in hn2.2 (by
        obtain ⟨q, hq, e2⟩ := in_iff.1 h
        rcases List.mem_cons.1 hq with rfl | hq
        · exact absurd e2 e
        · exact in_iff.2 ⟨q, hq, e2⟩)
      refine ⟨p :: xs, z, ys, by rw [h1]; rfl, ?_, ?_, ?_⟩
      · rw [← h2]
        unfold wtL
        rw [List.find?_cons_of_neg (by simpa using e)]
      · show List.filter _ (p :: l) = _
        rw [List.filter_cons_of_pos (by simpa using e)]
        exact congrArg _ h3
      · intro x
        show List.map _ (p :: l) = _
        rw [List.map_cons, if_neg e]
        exact congrArg _ (h4 x)
section
variable {bx n : Nat} {a b c : List (Int × Int)} {r F : Own} {w0 w : World}
theorem lt3 {k : Nat} (hk : k < 3) : k = 0 ∨ k = 1 ∨ k = 2 := by omega
theorem nd3 (h : DqAt bx 3 n (st3 a b c) r) : (idsL a).Nodup ∧ (idsL b).Nodup ∧ (idsL c).Nodup := ⟨h.nd (k := 0) (by omega), h.nd (k := 1) (by omega), h.nd (k := 2) (by omega)⟩
theorem apart3 (h : DqAt bx 3 n (st3 a b c) r) (id : Int) : (inL id a = true → inL id b = false ∧ inL id c = false) ∧ (inL id b = true → inL id a = false ∧ inL id c = false) ∧ (inL id c = true → inL id a = false ∧ inL id b = false) := by
  have key : ∀ j k : Nat, j < 3 → k < 3 → j ≠ k → inL id (st3 a b c j) = true → inL id (st3 a b c k) = false := by
    intro j k hj hk hne h1
    rw [Bool.eq_false_iff]
    intro h2
    obtain ⟨p, hp, e1⟩ := in_iff.1 h1
    obtain ⟨q, hq, e2⟩ := in_iff.1 h2
    exact hne (h.uniq hj hk hp hq (by rw [e1, e2])).1
  exact ⟨fun h1 => ⟨key 0 1 (by omega) (by omega) (by omega) h1, key 0 2 (by omega) (by omega) (by omega) h1⟩, fun h1 => ⟨key 1 0 (by omega) (by omega) (by omega) h1, key 1 2 (by omega) (by omega) (by omega) h1⟩, fun h1 => ⟨key 2 0 (by omega) (by omega) (by omega) h1, key 2 1 (by omega) (by omega) (by omega) h1⟩⟩
theorem absent3 {id : Int} (h1 : inL id a = false) (h2 : inL id b = false) (h3 : inL id c = false) : Absent 3 (st3 a b c) id := by
  intro k hk p hp e
  rcases lt3 hk with rfl | rfl | rfl
  · have := (in_iff (l := a)).2 ⟨p, hp, e⟩; rw [h1] at this; cases this
  · have := (in_iff (l := b)).2 ⟨p, hp, e⟩; rw [h2] at this; cases this
  · have := (in_iff (l := c)).2 ⟨p, hp, e⟩; rw [h3] at this; cases this
def DqDid (w0 : World) (F : Own) (bx n : Nat) (a b c : List (Int × Int)) (e : Ending) (w' : World) : Prop := (∃ x : Int, e = .returned (.int .i64 x)) ∧ ∃ r', DqAt bx 3 n (st3 a b c) r' ∧ Owned w0 w' (r' ++ F)
theorem d3_unlink {id : Int} (hx : wfk id) (hn : n ≤ 1000000) (h : DqAt bx 3 n (st3 a b c) r) (hO : Owned w0 w (r ++ F)) :
    Calls Try.prog 58 #[.pointer (some ⟨bx, 0, none⟩), .int .i64 id] w (DqDid w0 F bx n (remL id a) (remL id b) (remL id c)) := by
  obtain ⟨na, nb, nc⟩ := nd3 h
  obtain ⟨pa, pb, pc⟩ := apart3 h id
  cases ha : inL id a with
  | true =>
    obtain ⟨h2, h3⟩ := pa ha
    obtain ⟨xs, z, ys, e1, -, e2, -⟩ := split_in na ha
    refine (dq_unlink_some hn h (k := 0) (by omega) (show st3 a b c 0 = _ from e1) hO).mono ?_
    rintro e w' ⟨rfl, r', hr', hO'⟩
    refine ⟨⟨0, rfl⟩, r', hr'.congr (fun k hk => ?_), hO'⟩
    rcases lt3 hk with rfl | rfl | rfl
    · exact e2
    · exact (rem_out h2).1
    · exact (rem_out h3).1
  | false =>
    cases hb : inL id b with
    | true =>
      obtain ⟨h2, h3⟩ := pb hb
      obtain ⟨xs, z, ys, e1, -, e2, -⟩ := split_in nb hb
      refine (dq_unlink_some hn h (k := 1) (by omega) (show st3 a b c 1 = _ from e1) hO).mono ?_
      rintro e w' ⟨rfl, r', hr', hO'⟩
      refine ⟨⟨0, rfl⟩, r', hr'.congr (fun k hk => ?_), hO'⟩
      rcases lt3 hk with rfl | rfl | rfl
      · exact (rem_out h2).1
      · exact e2
      · exact (rem_out h3).1
    | false =>
      cases hc : inL id c with
      | true =>
        obtain ⟨xs, z, ys, e1, -, e2, -⟩ := split_in nc hc
        refine (dq_unlink_some hn h (k := 2) (by omega) (show st3 a b c 2 = _ from e1) hO).mono ?_
        rintro e w' ⟨rfl, r', hr', hO'⟩
        refine ⟨⟨0, rfl⟩, r', hr'.congr (fun k hk => ?_), hO'⟩
        rcases lt3 hk with rfl | rfl | rfl
        · exact (rem_out ha).1
        · exact (rem_out hb).1
        · exact e2
      | false =>
        refine (dq_unlink_none h hx (absent3 ha hb hc) hO).mono ?_
        rintro e w' ⟨rfl, hO'⟩
        rw [(rem_out ha).1, (rem_out hb).1, (rem_out hc).1]
        exact ⟨⟨3, rfl⟩, r, h, hO.under hO'⟩
theorem d3_reweigh {id x : Int} (hid : wfk id) (hx : 0 ≤ x ∧ x ≤ 2147483648) (hn : n ≤ 1000000) (h : DqAt bx 3 n (st3 a b c) r) (hO : Owned w0 w (r ++ F)) :
    Calls Try.prog 30 #[.pointer (some ⟨bx, 0, none⟩), .int .i64 id, .int .i64 x] w (DqDid w0 F bx n (setL id x a) (setL id x b) (setL id x c)) := by
  obtain ⟨na, nb, nc⟩ := nd3 h
  obtain ⟨pa, pb, pc⟩ := apart3 h id
  cases ha : inL id a with
  | true =>
    obtain ⟨h2, h3⟩ := pa ha
    obtain ⟨xs, z, ys, e1, -, -, e2⟩ := split_in na ha
    refine (dq_reweigh_some hn h (k := 0) (by omega) (show st3 a b c 0 = _ from e1) hx hO).mono ?_
    rintro e w' ⟨rfl, r', hr', hO'⟩
    refine ⟨⟨0, rfl⟩, r', hr'.congr (fun k hk => ?_), hO'⟩
    rcases lt3 hk with rfl | rfl | rfl
    · exact e2 x
    · exact (rem_out h2).2 x
    · exact (rem_out h3).2 x
  | false =>
    cases hb : inL id b with
    | true =>
      obtain ⟨h2, h3⟩ := pb hb
      obtain ⟨xs, z, ys, e1, -, -, e2⟩ := split_in nb hb
      refine (dq_reweigh_some hn h (k := 1) (by omega) (show st3 a b c 1 = _ from e1) hx hO).mono ?_
      rintro e w' ⟨rfl, r', hr', hO'⟩
      refine ⟨⟨0, rfl⟩, r', hr'.congr (fun k hk => ?_), hO'⟩
      rcases lt3 hk with rfl | rfl | rfl
      · exact (rem_out h2).2 x
      · exact e2 x
      · exact (rem_out h3).2 x
    | false =>
      cases hc : inL id c with
      | true =>
        obtain ⟨xs, z, ys, e1, -, -, e2⟩ := split_in nc hc
        refine (dq_reweigh_some hn h (k := 2) (by omega) (show st3 a b c 2 = _ from e1) hx hO).mono ?_
        rintro e w' ⟨rfl, r', hr', hO'⟩
        refine ⟨⟨0, rfl⟩, r', hr'.congr (fun k hk => ?_), hO'⟩
        rcases lt3 hk with rfl | rfl | rfl
        · exact (rem_out ha).2 x
        · exact (rem_out hb).2 x
        · exact e2 x
      | false =>
        refine (dq_reweigh_none h hid (absent3 ha hb hc) hO).mono ?_
        rintro e w' ⟨rfl, hO'⟩
        rw [(rem_out ha).2, (rem_out hb).2, (rem_out hc).2]
        exact ⟨⟨3, rfl⟩, r, h, hO.under hO'⟩
end
end Go.Proofs.Ytnhdjpeadhcajaa
namespace Go.Proofs.Ytnhdjpeadhcajaa
open Go.RowKit Go.Sep DqPure
section
variable {bx n : Nat} {a b c : List (Int × Int)} {r F : Own} {w0 w : World}
theorem d3_push {id x : Int} (hi : 1 ≤ id ∧ id ≤ 65536 ∧ 0 ≤ x ∧ x ≤ 2147483648) (hab : inL id a = false ∧ inL id b = false ∧ inL id c = false) (hn : n ≤ 1000000) (h : DqAt bx 3 n (st3 a b c) r) (hO : Owned w0 w (r ++ F)) :
    Calls Try.prog 28 #[.pointer (some ⟨bx, 0, none⟩), .int .i64 0, .int .i64 id, .int .i64 x] w (DqDid w0 F bx (n + 1) (a ++ [(id, x)]) b c) := by
  refine (dq_push_new hn h (k := 0) (by omega) hi (absent3 hab.1 hab.2.1 hab.2.2) hO).mono ?_
  rintro e w' ⟨rfl, r', hr', hO'⟩
  refine ⟨⟨0, rfl⟩, r', hr'.congr (fun k hk => ?_), hO'⟩
  rcases lt3 hk with rfl | rfl | rfl <;> rfl
theorem d3_move {id : Int} {k j : Nat} {xs ys : List (Int × Int)} {z : Int} {a' b' c' : List (Int × Int)} (hk : k < 3) (hj : j < 3) (hs : st3 a b c k = xs ++ (id, z) :: ys)
    (he : ∀ i, i < 3 → st3 a' b' c' i = updS (updS (st3 a b c) k (xs ++ ys)) j (updS (st3 a b c) k (xs ++ ys) j ++ [(id, z)]) i) (hn : n ≤ 1000000) (h : DqAt bx 3 n (st3 a b c) r) (hO : Owned w0 w (r ++ F)) :
    Calls Try.prog 57 #[.pointer (some ⟨bx, 0, none⟩), .int .i64 id, .int .i64 (j : Int)] w (DqDid w0 F bx n a' b' c') := by
  refine (dq_move_some hn h hk hj hs hO).mono ?_
  rintro e w' ⟨rfl, r', hr', hO'⟩
  exact ⟨⟨0, rfl⟩, r', hr'.congr he, hO'⟩
theorem d3_moveBC {id : Int} (hb : inL id b = true) (hn : n ≤ 1000000) (h : DqAt bx 3 n (st3 a b c) r) (hO : Owned w0 w (r ++ F)) :
    Calls Try.prog 57 #[.pointer (some ⟨bx, 0, none⟩), .int .i64 id, .int .i64 2] w (DqDid w0 F bx n a (remL id b) (c ++ [(id, wtL id b)])) := by
  obtain ⟨xs, z, ys, e1, e2, e3, -⟩ := split_in (nd3 h).2.1 hb
  rw [e2, e3]
  refine d3_move (k := 1) (j := 2) (by omega) (by omega) (show st3 a b c 1 = _ from e1) (fun i hi => ?_) hn h hO
  rcases lt3 hi with rfl | rfl | rfl <;> rfl
theorem d3_moveAA {id : Int} (ha : inL id a = true) (hn : n ≤ 1000000) (h : DqAt bx 3 n (st3 a b c) r) (hO : Owned w0 w (r ++ F)) :
    Calls Try.prog 57 #[.pointer (some ⟨bx, 0, none⟩), .int .i64 id, .int .i64 0] w (DqDid w0 F bx n (remL id a ++ [(id, wtL id a)]) b c) := by
  obtain ⟨xs, z, ys, e1, e2, e3, -⟩ := split_in (nd3 h).1 ha
  rw [e2, e3]
  refine d3_move (k := 0) (j := 0) (by omega) (by omega) (show st3 a b c 0 = _ from e1) (fun i hi => ?_) hn h hO
  rcases lt3 hi with rfl | rfl | rfl <;> rfl
theorem d3_moveCC {id : Int} (hc : inL id c = true) (hn : n ≤ 1000000) (h : DqAt bx 3 n (st3 a b c) r) (hO : Owned w0 w (r ++ F)) :
    Calls Try.prog 57 #[.pointer (some ⟨bx, 0, none⟩), .int .i64 id, .int .i64 2] w (DqDid w0 F bx n a b (remL id c ++ [(id, wtL id c)])) := by
  obtain ⟨xs, z, ys, e1, e2, e3, -⟩ := split_in (nd3 h).2.2 hc
  rw [e2, e3]
  refine d3_move (k := 2) (j := 2) (by omega) (by omega) (show st3 a b c 2 = _ from e1) (fun i hi => ?_) hn h hO
  rcases lt3 hi with rfl | rfl | rfl <;> rfl
theorem d3_moveAB {x : Int × Int} {t : List (Int × Int)} (hn : n ≤ 1000000) (h : DqAt bx 3 n (st3 (x :: t) b c) r) (hO : Owned w0 w (r ++ F)) :
    Calls Try.prog 57 #[.pointer (some ⟨bx, 0, none⟩), .int .i64 x.1, .int .i64 1] w (DqDid w0 F bx n t (b ++ [x]) c) := by
  refine d3_move (k := 0) (j := 1) (xs := []) (z := x.2) (ys := t) (by omega) (by omega) (show st3 (x :: t) b c 0 = _ from rfl) (fun i hi => ?_) hn h hO
  rcases lt3 hi with rfl | rfl | rfl <;> rfl
theorem d3_moveCB {x : Int × Int} {t : List (Int × Int)} (hn : n ≤ 1000000) (h : DqAt bx 3 n (st3 a b (x :: t)) r) (hO : Owned w0 w (r ++ F)) :
    Calls Try.prog 57 #[.pointer (some ⟨bx, 0, none⟩), .int .i64 x.1, .int .i64 1] w (DqDid w0 F bx n a (b ++ [x]) t) := by
  refine d3_move (k := 2) (j := 1) (xs := []) (z := x.2) (ys := t) (by omega) (by omega) (show st3 a b (x :: t) 2 = _ from rfl) (fun i hi => ?_) hn h hO
  rcases lt3 hi with rfl | rfl | rfl <;> rfl
/-- which row a node is in -/
def rowI (id : Int) (a b c : List (Int × Int)) : Int := if inL id a = true then 0 else if inL id b = true then 1 else if inL id c = true then 2 else -1
theorem d3_of {id : Int} (hx : wfk id) (h : DqAt bx 3 n (st3 a b c) r) (hO : Owned w0 w (r ++ F)) :
    Calls Try.prog 56 #[.pointer (some ⟨bx, 0, none⟩), .int .i64 id] w fun e w' => (∃ z : Int, e = .returned (.tuple #[.int .i64 (rowI id a b c), .int .i64 z])) ∧ Below w.heap.size w w' := by
  obtain ⟨na, nb, nc⟩ := nd3 h
  unfold rowI
  cases ha : inL id a with
  | true =>
    obtain ⟨xs, z, ys, e1, -, -, -⟩ := split_in na ha
    refine (dq_of_some h hx (k := 0) (by omega) (show st3 a b c 0 = _ from e1) hO).mono ?_
    rintro e w' ⟨rfl, hb⟩
    exact ⟨⟨z, rfl⟩, hb⟩
  | false =>
    cases hb : inL id b with
    | true =>
      obtain ⟨xs, z, ys, e1, -, -, -⟩ := split_in nb hb
      refine (dq_of_some h hx (k := 1) (by omega) (show st3 a b c 1 = _ from e1) hO).mono ?_
      rintro e w' ⟨rfl, hb⟩
      exact ⟨⟨z, rfl⟩, hb⟩
    | false =>
      cases hc : inL id c with
      | true =>
        obtain ⟨xs, z, ys, e1, -, -, -⟩ := split_in nc hc
        refine (dq_of_some h hx (k := 2) (by omega) (show st3 a b c 2 = _ from e1) hO).mono ?_
        rintro e w' ⟨rfl, hb⟩
        exact ⟨⟨z, rfl⟩, hb⟩
      | false =>
        refine (dq_of_none h hx (absent3 ha hb hc) hO).mono ?_
        rintro e w' ⟨rfl, hb⟩
        exact ⟨⟨0, rfl⟩, hb⟩
end
end Go.Proofs.Ytnhdjpeadhcajaa
