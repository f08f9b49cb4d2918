/- Merged texts: Layer 7: what only reads: Front, Back, Len, Weight, Of. -/
import Derived.Test.YtnhdjpeadhcajaaK20
namespace Go.Proofs.Ytnhdjpeadhcajaa
open Go.RowKit Go.Sep DqPure
def headI : List (Int × Int) → Int
  | [] => 0
  | p :: _ => p.1
def lastI : List (Int × Int) → Int
  | [] => 0
  | p :: l => (lst2 p l).1
where lst2 : Int × Int → List (Int × Int) → Int × Int
  | p, [] => p
  | _, q :: l => lst2 q l
def sumW : List (Int × Int) → Int
  | [] => 0
  | p :: l => p.2 + sumW l
theorem sumW_map (id wt : Nat → Int) : ∀ S : List Nat, sumW (S.map (fun b => (id b, wt b))) = wsum wt S
  | [] => rfl
  | b :: S => by rw [List.map_cons, sumW, sumW_map id wt S, wsum]
section
variable {bx m n : Nat} {st : Nat → List (Int × Int)} {r F : Own} {w0 w : World}
theorem bad_row {k : Int} (hk : ¬ (0 ≤ k ∧ k < (m : Int))) : k < 0 ∨ (m : Int) ≤ k := by omega
set_option maxHeartbeats 800000 in
theorem dq_front_none {k : Int} (hD : DqAt bx m n st r) (hk : ¬ (0 ≤ k ∧ k < (m : Int))) (hO : Owned w0 w (r ++ F)) :
    Calls Try.prog 72 #[.pointer (some ⟨bx, 0, none⟩), .int .i64 k] w fun e w' => e = .returned (.int .i64 0) ∧ Below w.heap.size w w' := by
  obtain ⟨v, bm, q, L, S, nx, pv, li, id, wt, LW, LN, f, o, h, -⟩ := hD
  have hc := dq_row_none h (bad_row hk) hO
  clear h hO
  go_enter Try.func72, Try.ntmps72
  go_wp2_with fail
  go_at_call 52
  refine (hc).mono ?_
  rintro e w1 ⟨rfl, rfl⟩
  go_wp2_with fail
  go_ret
  exact ⟨rfl, Below.refl _ _⟩
theorem dq_back_none {k : Int} (hD : DqAt bx m n st r) (hk : ¬ (0 ≤ k ∧ k < (m : Int))) (hO : Owned w0 w (r ++ F)) :
    Calls Try.prog 73 #[.pointer (some ⟨bx, 0, none⟩), .int .i64 k] w fun e w' => e = .returned (.int .i64 0) ∧ Below w.heap.size w w' := by
  obtain ⟨v, bm, q, L, S, nx, pv, li, id, wt, LW, LN, f, o, h, -⟩ := hD
  have hc := dq_row_none h (bad_row hk) hO
  clear h hO
  go_enter Try.func73, Try.ntmps73
  go_wp2_with fail
  go_at_call 52
  refine (hc).mono ?_
  rintro e w1 ⟨rfl, rfl⟩
  go_wp2_with fail
  go_ret
  exact ⟨rfl, Below.refl _ _⟩
theorem dq_len_none {k : Int} (hD : DqAt bx m n st r) (hk : ¬ (0 ≤ k ∧ k < (m : Int))) (hO : Owned w0 w (r ++ F)) :
    Calls Try.prog 74 #[.pointer (some ⟨bx, 0, none⟩), .int .i64 k] w fun e w' => e = .returned (.int .i64 0) ∧ Below w.heap.size w w' := by
  obtain ⟨v, bm, q, L, S, nx, pv, li, id, wt, LW, LN, f, o, h, -⟩ := hD
  have hc := dq_row_none h (bad_row hk) hO
  clear h hO
  go_enter Try.func74, Try.ntmps74
  go_wp2_with fail
  go_at_call 52
  refine (hc).mono ?_
  rintro e w1 ⟨rfl, rfl⟩
  go_wp2_with fail
  go_ret
  exact ⟨rfl, Below.refl _ _⟩
theorem dq_weight_none {k : Int} (hD : DqAt bx m n st r) (hk : ¬ (0 ≤ k ∧ k < (m : Int))) (hO : Owned w0 w (r ++ F)) :
    Calls Try.prog 34 #[.pointer (some ⟨bx, 0, none⟩), .int .i64 k] w fun e w' => e = .returned (.int .i64 0) ∧ Below w.heap.size w w' := by
  obtain ⟨v, bm, q, L, S, nx, pv, li, id, wt, LW, LN, f, o, h, -⟩ := hD
  have hc := dq_row_none h (bad_row hk) hO
  clear h hO
  go_enter Try.func34, Try.ntmps34
  go_wp2_with fail
  go_at_call 52
  refine (hc).mono ?_
  rintro e w1 ⟨rfl, rfl⟩
  go_wp2_with fail
  go_ret
  exact ⟨rfl, Below.refl _ _⟩
theorem head_fst {id wt : Nat → Int} : ∀ (S : List Nat), headI (S.map (fun b => (id b, wt b))) = match S with | [] => 0 | b :: _ => id b
  | [] => rfl
  | _ :: _ => rfl
theorem last_lst {id wt : Nat → Int} (a : Nat) : ∀ (S : List Nat), S ≠ [] → lastI (S.map (fun b => (id b, wt b))) = id (lst a S)
  | [], h => absurd rfl h
  | b :: S, _ => by
    show (lastI.lst2 (id b, wt b) (S.map (fun b => (id b, wt b)))).1 = id (lst b S)
    have : ∀ (S : List Nat) (b : Nat), (lastI.lst2 (id b, wt b) (S.map (fun b => (id b, wt b)))).1 = id (lst b S) := by
      intro S
      induction S with
      | nil => intro b; rfl
      | cons c S ih => intro b; exact ih c
    exact this S b
set_option maxHeartbeats 800000 in
theorem dq_front_some {k : Nat} (hD : DqAt bx m n st r) (hk : k < m) (hO : Owned w0 w (r ++ F)) :
    Calls Try.prog 72 #[.pointer (some ⟨bx, 0, none⟩), .int .i64 (k : Int)] w fun e w' => e = .returned (.int .i64 (headI (st k))) ∧ Below w.heap.size w w' := by
  obtain ⟨v, bm, q, L, S, nx, pv, li, id, wt, LW, LN, f, o, h, hst⟩ := hD
  have hc := dq_row_some h hk hO
  have hs := (h.l.seg k hk).first
  obtain ⟨l0, -, l4, -⟩ := h.l.nodes.lsc hO hk
  have c0 : ∃ x, w.cell? ⟨nx (L k), 0, none⟩ = some (.int .i64 x) ∧ x = headI (st k) := by
    rw [hst k hk, head_fst, hs]
    cases hS : S k with
    | nil => exact ⟨0, l0, rfl⟩
    | cons b t => exact ⟨id b, (h.l.nodes.elc hO ⟨k, hk, by rw [hS]; simp [fst]⟩).1, rfl⟩
  obtain ⟨x, c0, hx⟩ := c0
  rw [← hx]
  clear h hO hs hx hst
  go_enter Try.func72, Try.ntmps72
  go_wp2_with fail
  go_at_call 52
  refine (hc).mono ?_
  rintro e w1 ⟨rfl, rfl⟩
  go_wp2_with fail
  go_ret
  exact ⟨rfl, Below.refl _ _⟩
theorem dq_back_some {k : Nat} (hD : DqAt bx m n st r) (hk : k < m) (hO : Owned w0 w (r ++ F)) :
    Calls Try.prog 73 #[.pointer (some ⟨bx, 0, none⟩), .int .i64 (k : Int)] w fun e w' => e = .returned (.int .i64 (lastI (st k))) ∧ Below w.heap.size w w' := by
  obtain ⟨v, bm, q, L, S, nx, pv, li, id, wt, LW, LN, f, o, h, hst⟩ := hD
  have hc := dq_row_some h hk hO
  have hs := (h.l.seg k hk).last
  obtain ⟨l0, l3, -⟩ := h.l.nodes.lsc hO hk
  have c0 : ∃ x, w.cell? ⟨pv (L k), 0, none⟩ = some (.int .i64 x) ∧ x = lastI (st k) := by
    rw [hst k hk, hs]
    by_cases hS : S k = []
    · rw [hS]
      exact ⟨0, l0, rfl⟩
    · rw [last_lst (L k) _ hS]
      refine ⟨_, (h.l.nodes.elc hO ⟨k, hk, ?_⟩).1, rfl⟩
      rcases hSk : S k with _ | ⟨b, t⟩
      · exact absurd hSk hS
      · exact lst_mem t b
  obtain ⟨x, c0, hx⟩ := c0
  rw [← hx]
  clear h hO hs hx hst
  go_enter Try.func73, Try.ntmps73
  go_wp2_with fail
  go_at_call 52
  refine (hc).mono ?_
  rintro e w1 ⟨rfl, rfl⟩
  go_wp2_with fail
  go_ret
  exact ⟨rfl, Below.refl _ _⟩
theorem dq_len_some {k : Nat} (hD : DqAt bx m n st r) (hk : k < m) (hO : Owned w0 w (r ++ F)) :
    Calls Try.prog 74 #[.pointer (some ⟨bx, 0, none⟩), .int .i64 (k : Int)] w fun e w' => e = .returned (.int .i64 ((st k).length : Int)) ∧ Below w.heap.size w w' := by
  obtain ⟨v, bm, q, L, S, nx, pv, li, id, wt, LW, LN, f, o, h, hst⟩ := hD
  have hc := dq_row_some h hk hO
  obtain ⟨-, -, -, -, -, l7, -⟩ := h.l.nodes.lsc hO hk
  rw [h.l.ln k hk, show (S k).length = (st k).length by rw [hst k hk]; simp] at l7
  clear h hO hst
  go_enter Try.func74, Try.ntmps74
  go_wp2_with fail
  go_at_call 52
  refine (hc).mono ?_
  rintro e w1 ⟨rfl, rfl⟩
  go_wp2_with fail
  go_ret
  exact ⟨rfl, Below.refl _ _⟩
theorem dq_weight_some {k : Nat} (hD : DqAt bx m n st r) (hk : k < m) (hO : Owned w0 w (r ++ F)) :
    Calls Try.prog 34 #[.pointer (some ⟨bx, 0, none⟩), .int .i64 (k : Int)] w fun e w' => e = .returned (.int .i64 (sumW (st k))) ∧ Below w.heap.size w w' := by
  obtain ⟨v, bm, q, L, S, nx, pv, li, id, wt, LW, LN, f, o, h, hst⟩ := hD
  have hc := dq_row_some h hk hO
  obtain ⟨-, -, -, -, l6, -, -⟩ := h.l.nodes.lsc hO hk
  rw [h.l.lw k hk, ← sumW_map id wt, ← hst k hk] at l6
  clear h hO hst
  go_enter Try.func34, Try.ntmps34
  go_wp2_with fail
  go_at_call 52
  refine (hc).mono ?_
  rintro e w1 ⟨rfl, rfl⟩
  go_wp2_with fail
  go_ret
  exact ⟨rfl, Below.refl _ _⟩
def Absent (m : Nat) (st : Nat → List (Int × Int)) (x : Int) : Prop := ∀ k, k < m → ∀ p ∈ st k, p.1 ≠ x
theorem DqIn.f_none {v : Value} {bm : Nat} {q : Own} {L : Nat → Nat} {S : Nat → List Nat} {nx pv li : Nat → Nat} {id wt LW : Nat → Int} {LN : Nat → Nat} {f : Int → Nat} {o : Obj} (h : DqIn bx m n v bm q L S nx pv li id wt LW LN f o r)
    (hst : ∀ k, k < m → st k = (S k).map (fun b => (id b, wt b))) {x : Int} (ha : Absent m st x) : f x = 0 := by
  by_cases e : f x = 0
  · exact e
  · obtain ⟨k, b, hk, hb, -, hid⟩ := h.fc x e
    exact absurd hid (ha k hk (id b, wt b) (by rw [hst k hk]; exact List.mem_map.2 ⟨b, hb, rfl⟩))
theorem DqIn.f_some {v : Value} {bm : Nat} {q : Own} {L : Nat → Nat} {S : Nat → List Nat} {nx pv li : Nat → Nat} {id wt LW : Nat → Int} {LN : Nat → Nat} {f : Int → Nat} {o : Obj} (h : DqIn bx m n v bm q L S nx pv li id wt LW LN f o r)
    (hst : ∀ k, k < m → st k = (S k).map (fun b => (id b, wt b))) {k : Nat} {x z : Int} {xs ys : List (Int × Int)} (hk : k < m) (hs : st k = xs ++ (x, z) :: ys) :
    ∃ b us ts, S k = us ++ b :: ts ∧ xs = us.map (fun b => (id b, wt b)) ∧ ys = ts.map (fun b => (id b, wt b)) ∧ id b = x ∧ wt b = z ∧ f x = b + 1 := by
  rw [hst k hk] at hs
  obtain ⟨us, t, h1, h2, h3⟩ := List.map_eq_append_iff.1 hs
  obtain ⟨b, ts, h4, h5, h6⟩ := List.map_eq_cons_iff.1 h3
  simp only [Prod.mk.injEq] at h5
  subst h4
  have hf := h.fm k hk b (by rw [h1]; simp)
  exact ⟨b, us, ts, h1, h2.symm, h6.symm, h5.1, h5.2, by rw [← h5.1]; exact hf⟩
set_option maxHeartbeats 800000 in
theorem dq_of_none {x : Int} (hD : DqAt bx m n st r) (hx : wfk x) (ha : Absent m st x) (hO : Owned w0 w (r ++ F)) :
    Calls Try.prog 56 #[.pointer (some ⟨bx, 0, none⟩), .int .i64 x] w fun e w' => e = .returned (.tuple #[.int .i64 (-1), .int .i64 0]) ∧ Below w.heap.size w w' := by
  obtain ⟨v, bm, q, L, S, nx, pv, li, id, wt, LW, LN, f, o, h, hst⟩ := hD
  obtain ⟨-, c1⟩ := h.cx hO
  have hl := h.map.look (hO.look_at h.om).2 hx
  rw [h.f_none hst ha] at hl
  unfold toP at hl
  clear h hO hst ha hx
  go_enter Try.func56, Try.ntmps56
  go_wp2_with fail
  go_ret2
  exact ⟨rfl, Below.refl _ _⟩
set_option maxHeartbeats 800000 in
theorem dq_of_some {k : Nat} {x z : Int} {xs ys : List (Int × Int)} (hD : DqAt bx m n st r) (hx : wfk x) (hk : k < m) (hs : st k = xs ++ (x, z) :: ys) (hO : Owned w0 w (r ++ F)) :
    Calls Try.prog 56 #[.pointer (some ⟨bx, 0, none⟩), .int .i64 x] w fun e w' => e = .returned (.tuple #[.int .i64 (k : Int), .int .i64 z]) ∧ Below w.heap.size w w' := by
  obtain ⟨v, bm, q, L, S, nx, pv, li, id, wt, LW, LN, f, o, h, hst⟩ := hD
  obtain ⟨-, c1⟩ := h.cx hO
  have hl := h.map.look (hO.look_at h.om).2 hx
  obtain ⟨b, us, ts, h1, -, -, hid, hwt, hf⟩ := h.f_some hst hk hs
  have hbS : b ∈ S k := by rw [h1]; simp
  obtain ⟨-, e1, e2, -⟩ := h.l.nodes.elc hO ⟨k, hk, hbS⟩
  rw [h.l.li_ k hk b hbS] at e2
  rw [hwt] at e1
  obtain ⟨-, -, -, l5, -⟩ := h.l.nodes.lsc hO hk
  rw [hf] at hl
  unfold toP nptr at hl
  clear h hO hst hx h1 hid hwt hf hbS hs
  go_enter Try.func56, Try.ntmps56
  go_wp2_with fail
  go_region_with (fail)
  all_goals go_wp2_with fail
  all_goals go_ret2
  all_goals exact ⟨rfl, (Below.refl _ _).drew⟩
end
end Go.Proofs.Ytnhdjpeadhcajaa
