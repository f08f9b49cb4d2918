/- Merged texts: What a call's own blocks hold, as a list of blocks: the calculus of own memory that the walks of this seat use. -/
import Derived.Below
import Derived.Laws.OwnMore
import Derived.Deep.Draws
import Derived.WalkKit
import Derived.Maps.AppendAt
import Derived.Laws.AppendOwnNone
import Derived.Laws.Rows
import Derived.Deep.MidRow
namespace Go.Sep
open Go Go.RowKit

abbrev Own := List (Nat × Obj)

/-- In w, a world behind w0, each listed block (none of w0's, no two alike) holds what is listed; w0's blocks are as they were. -/
structure Owned (w0 w : World) (l : Own) : Prop where
  below : Below w0.heap.size w0 w
  nodup : (l.map Prod.fst).Nodup
  at_ : ∀ p ∈ l, w0.heap.size ≤ p.1 ∧ w.heap[p.1]? = some p.2

theorem Owned.nil (w : World) : Owned w w [] := ⟨Below.refl _ _, by simp, by simp⟩
theorem Owned.size {w0 w : World} {l : Own} (h : Owned w0 w l) : w0.heap.size ≤ w.heap.size := h.below.size
theorem Owned.perm {w0 w : World} {l l' : Own} (h : Owned w0 w l) (hp : l.Perm l') : Owned w0 w l' :=
  ⟨h.below, (hp.map Prod.fst).nodup h.nodup, fun p hm => h.at_ p (hp.mem_iff.2 hm)⟩
theorem Owned.head {w0 w : World} {g : Nat} {o : Obj} {l : Own} (h : Owned w0 w ((g, o) :: l)) : w.heap[g]? = some o := (h.at_ (g, o) (by simp)).2
theorem Owned.base {w0 w : World} {g : Nat} {o : Obj} {l : Own} (h : Owned w0 w ((g, o) :: l)) : w0.heap.size ≤ g := (h.at_ (g, o) (by simp)).1
theorem Owned.lt {w0 w : World} {g : Nat} {o : Obj} {l : Own} (h : Owned w0 w ((g, o) :: l)) : g < w.heap.size :=
  (Array.getElem?_eq_some_iff.1 h.head).1
theorem Owned.tail {w0 w : World} {p : Nat × Obj} {l : Own} (h : Owned w0 w (p :: l)) : Owned w0 w l :=
  ⟨h.below, by have := h.nodup; simp only [List.map_cons, List.nodup_cons] at this; exact this.2, fun q hq => h.at_ q (List.mem_cons_of_mem _ hq)⟩
theorem Owned.sub {w0 w : World} {l l' : Own} (h : Owned w0 w l) (hs : l'.Sublist l) : Owned w0 w l' :=
  ⟨h.below, (hs.map Prod.fst).nodup h.nodup, fun q hq => h.at_ q (hs.subset hq)⟩
theorem Owned.swap {w0 w : World} {p q : Nat × Obj} {l : Own} (h : Owned w0 w (p :: q :: l)) : Owned w0 w (q :: p :: l) := h.perm (List.Perm.swap q p l)
theorem Owned.swap3 {w0 w : World} {a b c : Nat × Obj} {l : Own} (h : Owned w0 w (a :: b :: c :: l)) : Owned w0 w (b :: c :: a :: l) :=
  h.perm ((List.Perm.swap b a (c :: l)).trans ((List.Perm.swap c a l).cons b))
theorem Owned.swap2 {w0 w : World} {a b c : Nat × Obj} {l : Own} (h : Owned w0 w (b :: c :: a :: l)) : Owned w0 w (a :: b :: c :: l) :=
  h.perm (((List.Perm.swap a c l).cons b).trans (List.Perm.swap a b (c :: l)))
theorem perm2 (a b l : Own) : (a ++ (b ++ l)).Perm (b ++ (a ++ l)) := by
  rw [← List.append_assoc, ← List.append_assoc]
  exact List.Perm.append_right l List.perm_append_comm
theorem perm3 (a b c l : Own) : (a ++ (b ++ (c ++ l))).Perm (c ++ (a ++ (b ++ l))) := (List.Perm.append_left a (perm2 b c l)).trans (perm2 a c _)
theorem perm4 (a b c d l : Own) : (a ++ (b ++ (c ++ (d ++ l)))).Perm (d ++ (a ++ (b ++ (c ++ l)))) := (List.Perm.append_left a (perm3 b c d l)).trans (perm2 a d _)
theorem perm5 (a b c d e l : Own) : (a ++ (b ++ (c ++ (d ++ (e ++ l))))).Perm (e ++ (a ++ (b ++ (c ++ (d ++ l))))) := (List.Perm.append_left a (perm4 b c d e l)).trans (perm2 a e _)
theorem Owned.comm {w0 w : World} {a b l : Own} (h : Owned w0 w (a ++ (b ++ l))) : Owned w0 w (b ++ (a ++ l)) := h.perm (perm2 a b l)
theorem Owned.third {w0 w : World} {a b c l : Own} (h : Owned w0 w (a ++ (b ++ (c ++ l)))) : Owned w0 w (c ++ (a ++ (b ++ l))) := h.perm (perm3 a b c l)
theorem Owned.back3 {w0 w : World} {a b c l : Own} (h : Owned w0 w (c ++ (a ++ (b ++ l)))) : Owned w0 w (a ++ (b ++ (c ++ l))) := h.perm (perm3 a b c l).symm
theorem Owned.fourth {w0 w : World} {a b c d l : Own} (h : Owned w0 w (a ++ (b ++ (c ++ (d ++ l))))) : Owned w0 w (d ++ (a ++ (b ++ (c ++ l)))) := h.perm (perm4 a b c d l)
theorem Owned.back4 {w0 w : World} {a b c d l : Own} (h : Owned w0 w (d ++ (a ++ (b ++ (c ++ l))))) : Owned w0 w (a ++ (b ++ (c ++ (d ++ l)))) := h.perm (perm4 a b c d l).symm
theorem Owned.fifth {w0 w : World} {a b c d e l : Own} (h : Owned w0 w (a ++ (b ++ (c ++ (d ++ (e ++ l)))))) : Owned w0 w (e ++ (a ++ (b ++ (c ++ (d ++ l))))) := h.perm (perm5 a b c d e l)
theorem Owned.back5 {w0 w : World} {a b c d e l : Own} (h : Owned w0 w (e ++ (a ++ (b ++ (c ++ (d ++ l)))))) : Owned w0 w (a ++ (b ++ (c ++ (d ++ (e ++ l))))) := h.perm (perm5 a b c d e l).symm
theorem Owned.drop_ {w0 w : World} {a l : Own} (h : Owned w0 w (a ++ l)) : Owned w0 w l := h.sub (List.sublist_append_right a l)
theorem Owned.ne {w0 w : World} {g k : Nat} {o u : Obj} {l : Own} (h : Owned w0 w ((g, o) :: (k, u) :: l)) : g ≠ k := by
  have := h.nodup; simp only [List.map_cons, List.nodup_cons, List.mem_cons, not_or] at this; exact this.1.1
theorem Owned.fresh {w0 w : World} {l : Own} (h : Owned w0 w l) : ∀ p ∈ l, p.1 < w.heap.size := fun p hp =>
  (Array.getElem?_eq_some_iff.1 (h.at_ p hp).2).1


/-- A world in which the listed blocks are as they were, and w0's too. -/
theorem Owned.step {w0 w w' : World} {l : Own} (h : Owned w0 w l) (hb : Below w0.heap.size w w') (hk : ∀ p ∈ l, w'.heap[p.1]? = w.heap[p.1]?) : Owned w0 w' l :=
  ⟨h.below.trans hb, h.nodup, fun p hp => ⟨(h.at_ p hp).1, (hk p hp).trans (h.at_ p hp).2⟩⟩
theorem Owned.under {w0 w w' : World} {l : Own} (h : Owned w0 w l) (hb : Below w.heap.size w w') : Owned w0 w' l :=
  h.step (hb.mono h.size) (fun p hp => hb.block _ (h.fresh p hp))
theorem Owned.drew {w0 w : World} {l : Own} (h : Owned w0 w l) : Owned w0 w.drew l := h.under (Below.refl _ _).drew
theorem Owned.drewN {w0 w : World} {l : Own} (h : Owned w0 w l) (n : Nat) : Owned w0 (w.drewN n) l := h.under ⟨rfl, rfl, rfl, Nat.le_refl _, fun _ _ => rfl⟩
theorem Owned.alloc {w0 w : World} {l : Own} (h : Owned w0 w l) (o : Obj) : Owned w0 (w.alloc o) ((w.heap.size, o) :: l) := by
  have hb : Below w.heap.size w (w.alloc o) := (Below.refl _ _).alloc (Nat.le_refl _) o
  have h' := h.under hb
  refine ⟨h'.below, ?_, ?_⟩
  · simp only [List.map_cons, List.nodup_cons]
    refine ⟨fun hm => ?_, h.nodup⟩
    obtain ⟨p, hp, he⟩ := List.mem_map.1 hm
    have := h.fresh p hp
    omega
  · intro p hp
    rcases List.mem_cons.1 hp with rfl | hp
    · exact ⟨h.size, heap_alloc_new w o⟩
    · exact h'.at_ p hp
theorem Owned.alloc2 {w0 w : World} {l : Own} (h : Owned w0 w l) (o o' : Obj) : Owned w0 ((w.alloc o).alloc o') ((w.heap.size, o) :: (w.heap.size + 1, o') :: l) := by
  have k := (h.alloc o).alloc o'
  rw [show (w.alloc o).heap.size = w.heap.size + 1 by simp] at k
  exact k.swap
/-- A block that is not kept. -/
theorem Owned.alloc_ {w0 w : World} {l : Own} (h : Owned w0 w l) (o : Obj) : Owned w0 (w.alloc o) l := h.under ((Below.refl _ _).alloc (Nat.le_refl _) o)

theorem heap_setCell_at {w : World} {g i : Nat} {cs : Array Value} {t : TypeId} {fz : Nat × Nat} (v : Value) (h : w.heap[g]? = some (.cells cs t fz)) :
    (w.setCell ⟨g, i, none⟩ v).heap[g]? = some (.cells (cs.setIfInBounds i v) t fz) := by
  simp [World.setCell, Array.getElem?_modify, h]

theorem Owned.set {w0 w : World} {g : Nat} {cs : Array Value} {t : TypeId} {fz : Nat × Nat} {l : Own} (h : Owned w0 w ((g, .cells cs t fz) :: l)) (i : Nat) (v : Value) :
    Owned w0 (w.setCell ⟨g, i, none⟩ v) ((g, .cells (cs.setIfInBounds i v) t fz) :: l) := by
  have hb : Below w0.heap.size w (w.setCell ⟨g, i, none⟩ v) := (Below.refl _ _).setCell h.base v
  have hn := h.nodup
  simp only [List.map_cons, List.nodup_cons] at hn
  have ht : Owned w0 (w.setCell ⟨g, i, none⟩ v) l := h.tail.step hb (fun p hp => Below.heap_setCell _ _ _ _ (fun e => hn.1 (List.mem_map.2 ⟨p, hp, e⟩)))
  refine ⟨ht.below, by simpa using hn, ?_⟩
  intro p hp
  rcases List.mem_cons.1 hp with rfl | hp
  · exact ⟨h.base, heap_setCell_at v h.head⟩
  · exact ht.at_ p hp

theorem Owned.cell {w0 w : World} {g : Nat} {cs : Array Value} {t : TypeId} {fz : Nat × Nat} {l : Own} (h : Owned w0 w ((g, .cells cs t fz) :: l)) (i : Nat) : w.cell? ⟨g, i, none⟩ = cs[i]? := by
  simp [World.cell?, h.head]
theorem Owned.frozen {w0 w : World} {g : Nat} {cs : Array Value} {t : TypeId} {l : Own} (h : Owned w0 w ((g, .cells cs t (0, 0)) :: l)) (i : Nat) : w.frozen? ⟨g, i, none⟩ = false := by
  simp [World.frozen?, h.head]
/-- A law that ends in 'grownBy': no listed block was written. -/
theorem Owned.grown {w0 w w' : World} {l : Own} {row : Option Nat} (h : Owned w0 w l) (hg : w.grownBy w' row) (hr : ∀ k, row = some k → w0.heap.size ≤ k) (hl : ∀ p ∈ l, some p.1 ≠ row) : Owned w0 w' l :=
  h.step ((Below.refl _ _).grown hg h.size hr) (fun p hp => hg.block _ (h.fresh p hp) (hl p hp))

/-- The newest listed block was written, nothing below it. -/
theorem Owned.top {w0 w w' : World} {g : Nat} {o o' : Obj} {l : Own} (h : Owned w0 w ((g, o) :: l)) (hl : ∀ p ∈ l, p.1 < g) (hb : Below g w w') (ho : w'.heap[g]? = some o') : Owned w0 w' ((g, o') :: l) := by
  have hn := h.nodup
  simp only [List.map_cons, List.nodup_cons] at hn
  have ht : Owned w0 w' l := h.tail.step (hb.mono h.base) (fun p hp => hb.block _ (hl p hp))
  refine ⟨ht.below, by simpa using hn, ?_⟩
  intro p hp
  rcases List.mem_cons.1 hp with rfl | hp
  · exact ⟨h.base, ho⟩
  · exact ht.at_ p hp
theorem madeCells_one (z : Value) (n : Nat) : madeCells #[z] n = (List.replicate n z).toArray := by
  unfold madeCells
  apply Array.ext
  · simp
  · intro i h1 h2
    simp [Nat.mod_one]

/-- A slice of the call's own: nil, or the head of a listed block. 'n': how many elements (each of 'size' cells), 'xs': their cells. -/
def Row (e : TypeId) (size : Nat) (v : Value) (n : Nat) (xs : List Value) (r : Own) : Prop :=
  xs.length = n * size ∧ ((v = .slice none 0 0 ∧ n = 0 ∧ r = []) ∨ ∃ g cap cur, v = .slice (some ⟨g, 0, none⟩) n cap ∧ r = [(g, .cells cur e (0, 0))] ∧ n ≤ cap ∧ cap ≤ maxLen ∧ cur.size = cap * size ∧ cur.toList.take (n * size) = xs)

theorem Row.nil (e : TypeId) (size : Nat) : Row e size (.slice none 0 0) 0 [] [] := ⟨by simp, .inl ⟨rfl, rfl, rfl⟩⟩
theorem Row.slice {e : TypeId} {size n : Nat} {v : Value} {xs : List Value} {r : Own} (h : Row e size v n xs r) : ∃ A c, v = .slice A n c := by
  rcases h.2 with ⟨rfl, rfl, _⟩ | ⟨g, cap, cur, rfl, _⟩
  · exact ⟨_, _, rfl⟩
  · exact ⟨_, _, rfl⟩
theorem Owned.ownsRow {w0 w : World} {e : TypeId} {size n : Nat} {v : Value} {xs : List Value} {r l : Own} (h : Owned w0 w (r ++ l)) (hr : Row e size v n xs r) : w.ownsRow w0.heap.size e size v n xs := by
  refine ⟨hr.1, ?_⟩
  rcases hr.2 with ⟨h1, h2, _⟩ | ⟨g, cap, cur, hv, rfl, hc⟩
  · exact .inl ⟨h1, h2⟩
  · exact .inr ⟨g, cap, cur, hv, (h.at_ (g, .cells cur e (0, 0)) (by simp)).1, (h.at_ (g, .cells cur e (0, 0)) (by simp)).2, hc⟩
theorem Row.own {e : TypeId} {size n : Nat} {v : Value} {xs : List Value} {r : Own} (hr : Row e size v n xs r) {k : Nat} (hk : v.ownBlock = some k) : ∃ o, r = [(k, o)] := by
  rcases hr.2 with ⟨rfl, _, _⟩ | ⟨g, cap, cur, rfl, rfl, _⟩
  · simp [Value.ownBlock] at hk
  · simp only [Value.ownBlock, Option.some.injEq] at hk
    subst hk
    exact ⟨_, rfl⟩
theorem Row.none_ {e : TypeId} {size n : Nat} {v : Value} {xs : List Value} {r : Own} (hr : Row e size v n xs r) (hk : v.ownBlock = none) : r = [] := by
  rcases hr.2 with ⟨rfl, _, h⟩ | ⟨g, cap, cur, rfl, rfl, _⟩
  · exact h
  · simp [Value.ownBlock] at hk
/-- Behind a law on append: the row may lie in a new block. -/
theorem Owned.appended {w0 w w' : World} {e : TypeId} {size n n' : Nat} {v v' : Value} {xs xs' : List Value} {r l : Own} (h : Owned w0 w (r ++ l)) (hr : Row e size v n xs r)
    (ho : w'.ownsRow w0.heap.size e size v' n' xs') (hg : w.grownBy w' v.ownBlock) (hat : v'.ownBlock = v.ownBlock ∨ v'.ownBlock = some w.heap.size) :
    ∃ r', Row e size v' n' xs' r' ∧ Owned w0 w' (r' ++ l) := by
  have hn := h.nodup
  have hl : Owned w0 w' l := by
    have h1 : Owned w0 w l := h.sub (List.sublist_append_right r l)
    refine h1.grown hg (fun k hk => ?_) (fun p hp he => ?_)
    · obtain ⟨o, rfl⟩ := hr.own hk
      exact (h.at_ (k, o) (by simp)).1
    · obtain ⟨o, rfl⟩ := hr.own he.symm
      simp only [List.cons_append, List.nil_append, List.map_cons, List.nodup_cons] at hn
      exact hn.1 (List.mem_map.2 ⟨p, hp, rfl⟩)
  obtain ⟨h1, h2⟩ := ho
  rcases h2 with ⟨rfl, rfl⟩ | ⟨g, cap, cur, rfl, hb, hh, hc⟩
  · exact ⟨[], ⟨h1, .inl ⟨rfl, rfl, rfl⟩⟩, hl⟩
  · refine ⟨[(g, .cells cur e (0, 0))], ⟨h1, .inr ⟨g, cap, cur, rfl, rfl, hc⟩⟩, hl.below, ?_, ?_⟩
    · simp only [List.cons_append, List.nil_append, List.map_cons, List.nodup_cons]
      refine ⟨fun hm => ?_, hl.nodup⟩
      obtain ⟨p, hp, he⟩ := List.mem_map.1 hm
      rcases hat with hat | hat
      · obtain ⟨o, rfl⟩ := hr.own (k := g) (by rw [← hat]; rfl)
        simp only [List.cons_append, List.nil_append, List.map_cons, List.nodup_cons] at hn
        exact hn.1 (List.mem_map.2 ⟨p, hp, he⟩)
      · simp only [Value.ownBlock, Option.some.injEq] at hat
        have := h.fresh p (by simp [hp])
        omega
    · intro p hp
      rcases List.mem_cons.1 hp with rfl | hp
      · exact ⟨hb, hh⟩
      · exact hl.at_ p hp
section
variable {P : Program} {ops : Array Oper} {rest : List Oper} {o : Oper} {a : Act} {Q : Exit → Act → World → Prop}
/-- append to a row of one's own, whatever is appended. -/
theorem append_row {w0 w : World} (hgd : o.guard = none) (s x : Operand) (t : TypeId)
    (ho : o.op = .call { callee := .builtin .append, args := #[s, x], argTypes := #[t, t] })
    (e : TypeId) (z : Value) (size bytes : Nat) (ht : P.underlying t = some (.slice e)) (hinfo : (P.info? e).map (fun i => (i.zero, i.size, i.bytes)) = some (some z, size, bytes))
    (hzs : z.cells.size = size) (hsz : 0 < size)
    (v : Value) (n : Nat) (xs : List Value) (r l : Own) (hs : a.eval s = v) (hr : Row e size v n xs r) (hO : Owned w0 w (r ++ l))
    (ad : Addr) (m c : Nat) (news : List Value) (hx : a.eval x = .slice (some ad) m c) (hl : news.length = m * size) (hnews : ∀ j u, news[j]? = some u → w.cell? (ad.add j) = some u) (h1 : ∀ u ∈ news, u.oneCell' = true)
    (h63 : n + m ≤ maxLen) (hbytes : (n + m) * bytes ≤ 140737488355328)
    (h : ∀ v' r' w', Row e size v' (n + m) (xs ++ news) r' → Owned w0 w' (r' ++ l) → wpList P ops Q rest (a.put o.dst v') w') :
    wpList P ops Q (o :: rest) a w := by
  obtain ⟨i0, hi, hz0, hz1, hz2⟩ := info_parts hinfo
  refine wpList_append_own_at w hgd s x t ho w0.heap.size e i0 z size bytes ht hi hz0 hz1 hz2 hzs hsz v n xs hs (hO.ownsRow hr) ad m c news hx hl hnews h1 h63 hbytes hO.size ?_
  intro v' w' hown hg _ hat
  obtain ⟨r', hr', hO'⟩ := hO.appended hr hown hg hat
  exact h v' r' w' hr' hO'
/-- append(v, y), y one cell: the variadic's box lies ahead. -/
theorem append_one {w0 w : World} (hgd : o.guard = none) (s x : Operand) (t : TypeId)
    (ho : o.op = .call { callee := .builtin .append, args := #[s, x], argTypes := #[t, t] })
    (e : TypeId) (z : Value) (bytes : Nat) (ht : P.underlying t = some (.slice e)) (hinfo : (P.info? e).map (fun i => (i.zero, i.size, i.bytes)) = some (some z, 1, bytes))
    (hzs : z.cells.size = 1) (v : Value) (n : Nat) (xs : List Value) (r l : Own) (y : Value) (hs : a.eval s = v) (hr : Row e 1 v n xs r) (hO : Owned w0 w (r ++ l))
    (hx : a.eval x = .slice (some ⟨w.heap.size, 0, none⟩) 1 1) (h1 : y.oneCell' = true) (h63 : n + 1 ≤ maxLen) (hbytes : (n + 1) * bytes ≤ 140737488355328)
    (h : ∀ v' r' w', Row e 1 v' (n + 1) (xs ++ [y]) r' → Owned w0 w' (r' ++ l) → wpList P ops Q rest (a.put o.dst v') w') :
    wpList P ops Q (o :: rest) a (w.alloc (.cells #[y] e)) :=
  append_row hgd s x t ho e z 1 bytes ht hinfo hzs (by omega) v n xs r l hs hr (hO.alloc_ _) ⟨w.heap.size, 0, none⟩ 1 1 [y] hx rfl (cell_one_new w y e) (by simpa using h1) h63 hbytes h
/-- append(v, u...), u whatever slice can be read. -/
theorem append_any {w0 w : World} (hgd : o.guard = none) (s x : Operand) (t : TypeId)
    (ho : o.op = .call { callee := .builtin .append, args := #[s, x], argTypes := #[t, t] })
    (e : TypeId) (z : Value) (size bytes : Nat) (ht : P.underlying t = some (.slice e)) (hinfo : (P.info? e).map (fun i => (i.zero, i.size, i.bytes)) = some (some z, size, bytes))
    (hzs : z.cells.size = size) (hsz : 0 < size)
    (v : Value) (n : Nat) (xs : List Value) (r l : Own) (hs : a.eval s = v) (hr : Row e size v n xs r) (hO : Owned w0 w (r ++ l))
    (A : Option Addr) (m c : Nat) (news : List Value) (hx : a.eval x = .slice A m c) (hl : news.length = m * size) (hA : A = none → m = 0 ∧ c = 0) (hnews : ∀ ad, A = some ad → ∀ j u, news[j]? = some u → w.cell? (ad.add j) = some u) (h1 : ∀ u ∈ news, u.oneCell' = true)
    (h63 : n + m ≤ maxLen) (hbytes : (n + m) * bytes ≤ 140737488355328)
    (h : ∀ v' r' w', Row e size v' (n + m) (xs ++ news) r' → Owned w0 w' (r' ++ l) → wpList P ops Q rest (a.put o.dst v') w') :
    wpList P ops Q (o :: rest) a w := by
  cases A with
  | none =>
    obtain ⟨rfl, rfl⟩ := hA rfl
    obtain ⟨i0, hi, hz0, hz1, hz2⟩ := info_parts hinfo
    have hnil : news = [] := List.eq_nil_of_length_eq_zero (by simpa using hl)
    subst hnil
    refine wpList_append_own_none hgd s x t ho w0.heap.size e i0 size ht hi v n xs hs (hO.ownsRow hr) hx ?_
    exact h v r w (by simpa using hr) hO
  | some ad => exact append_row hgd s x t ho e z size bytes ht hinfo hzs hsz v n xs r l hs hr hO ad m c news hx hl (hnews ad rfl) h1 h63 hbytes h
/-- append(v, u...), u a row of one's own too. -/
theorem append_rows {w0 w : World} (hgd : o.guard = none) (s x : Operand) (t : TypeId)
    (ho : o.op = .call { callee := .builtin .append, args := #[s, x], argTypes := #[t, t] })
    (e : TypeId) (z : Value) (size bytes : Nat) (ht : P.underlying t = some (.slice e)) (hinfo : (P.info? e).map (fun i => (i.zero, i.size, i.bytes)) = some (some z, size, bytes))
    (hzs : z.cells.size = size) (hsz : 0 < size)
    (v u : Value) (n m : Nat) (xs ys : List Value) (r r2 l : Own) (hs : a.eval s = v) (hx : a.eval x = u) (hr : Row e size v n xs r) (hr2 : Row e size u m ys r2) (hO : Owned w0 w (r ++ (r2 ++ l)))
    (h1 : ∀ u ∈ ys, u.oneCell' = true) (h63 : n + m ≤ maxLen) (hbytes : (n + m) * bytes ≤ 140737488355328)
    (h : ∀ v' r' w', Row e size v' (n + m) (xs ++ ys) r' → Owned w0 w' (r' ++ (r2 ++ l)) → wpList P ops Q rest (a.put o.dst v') w') :
    wpList P ops Q (o :: rest) a w := by
  have hr2' := hr2
  obtain ⟨hl, hc⟩ := hr2
  rcases hc with ⟨rfl, rfl, rfl⟩ | ⟨g, cap, cur, rfl, rfl, hn, hcap, hcs, htk⟩
  · obtain ⟨i0, hi, hz0, hz1, hz2⟩ := info_parts hinfo
    have hnil : ys = [] := List.eq_nil_of_length_eq_zero (by simpa using hl)
    subst hnil
    refine wpList_append_own_none hgd s x t ho w0.heap.size e i0 size ht hi v n xs hs (hO.ownsRow hr) hx ?_
    exact h v r w (by simpa using hr) hO
  · refine append_row hgd s x t ho e z size bytes ht hinfo hzs hsz v n xs r _ hs hr hO ⟨g, 0, none⟩ m cap ys hx hl ?_ h1 h63 hbytes h
    intro j u hj
    rw [Addr.add_lit, Nat.zero_add]
    refine (Owned.cell (Owned.comm hO) _).trans ?_
    have hlt : j < m * size := by rw [← hl]; exact (List.getElem?_eq_some_iff.1 hj).1
    rw [← htk, List.getElem?_take, if_pos hlt] at hj
    simpa using hj
end
/-- A block written from a place on. -/
def putAll (cur : Array Value) : Nat → List Value → Array Value
  | _, [] => cur
  | o, v :: r => putAll (cur.setIfInBounds o v) (o + 1) r
theorem putAll_size : ∀ (vs : List Value) (cur : Array Value) (o : Nat), (putAll cur o vs).size = cur.size
  | [], _, _ => rfl
  | v :: r, cur, o => by rw [putAll, putAll_size r]; simp
theorem putAll_get : ∀ (vs : List Value) (cur : Array Value) (o j : Nat), o + vs.length ≤ cur.size → (putAll cur o vs)[j]? = if o ≤ j ∧ j < o + vs.length then vs[j - o]? else cur[j]?
  | [], cur, o, j, _ => by rw [putAll, if_neg (by simp only [List.length_nil]; omega)]
  | v :: r, cur, o, j, h => by
    simp only [List.length_cons] at h
    rw [putAll, putAll_get r _ _ _ (by rw [Array.size_setIfInBounds]; omega)]
    by_cases h1 : o = j
    · subst h1
      rw [if_neg (by omega), if_pos ⟨Nat.le_refl _, by simp⟩, Nat.sub_self, Array.getElem?_setIfInBounds_self_of_lt (by omega)]
      rfl
    · by_cases h2 : o + 1 ≤ j ∧ j < o + 1 + r.length
      · rw [if_pos h2, if_pos ⟨by omega, by simp; omega⟩, show j - o = (j - (o + 1)) + 1 by omega]
        rfl
      · rw [if_neg h2, if_neg (by simp only [List.length_cons]; omega), Array.getElem?_setIfInBounds_ne h1]
theorem putAll_whole (cur : Array Value) (vs : List Value) (h : vs.length = cur.size) : putAll cur 0 vs = vs.toArray := by
  apply Array.ext_getElem?
  intro j
  rw [putAll_get _ _ _ _ (by omega)]
  by_cases hj : j < vs.length
  · rw [if_pos ⟨Nat.zero_le _, by omega⟩, Nat.sub_zero]; simp
  · rw [if_neg (by omega), Array.getElem?_eq_none (by omega), Array.getElem?_eq_none (by simp; omega)]
theorem Owned.sets {w0 : World} {g : Nat} {t : TypeId} {l : Own} : ∀ (vs : List Value) (o : Nat) (w : World) (cur : Array Value), Owned w0 w ((g, .cells cur t (0, 0)) :: l) →
    Owned w0 (w.setCells g o vs) ((g, .cells (putAll cur o vs) t (0, 0)) :: l)
  | [], _, _, _, h => h
  | v :: r, o, _, _, h => Owned.sets r (o + 1) _ _ (h.set o v)
theorem Owned.there {w0 w : World} {g : Nat} {cur : Array Value} {t : TypeId} {l : Own} (h : Owned w0 w ((g, .cells cur t (0, 0)) :: l)) (o n : Nat) (hn : o + n ≤ cur.size) : w.there g o n := by
  intro j hj
  refine ⟨?_, h.frozen _⟩
  rw [h.cell, Array.getElem?_eq_getElem (by omega)]
  rfl
section
variable {P : Program} {ops : Array Oper} {rest : List Oper} {o : Oper} {a : Act} {Q : Exit → Act → World → Prop}
/-- a whole array is loaded -/
theorem load_whole {w0 w : World} (hgd : o.guard = none) (ty : TypeId) (x : Operand) (ho : o.op = .load ty x) (g : Nat) (hx : a.eval x = .pointer (some ⟨g, 0, none⟩)) {t : TypeId} {cs : Array Value} {fr : Nat × Nat} {l : Own}
    (hO : Owned w0 w ((g, .cells cs t fr) :: l)) (d : TypeDesc) (hu : P.underlying ty = some d) (hd : (match d with | .struct _ | .array _ _ => true | _ => false) = true) (hi : (P.info? ty).map (·.size) = some cs.size)
    (h : wpList P ops Q rest (a.put o.dst (.agg cs)) w) : wpList P ops Q (o :: rest) a w := wpList_load_row hgd ty x ho g hx t cs fr d hO.head hu hd hi h
/-- a whole array is stored -/
theorem store_whole {w0 w : World} (hgd : o.guard = none) (ty : TypeId) (x y : Operand) (ho : o.op = .store ty x y) (g : Nat) (hx : a.eval x = .pointer (some ⟨g, 0, none⟩)) {t : TypeId} {cur : Array Value} {l : Own}
    (hO : Owned w0 w ((g, .cells cur t (0, 0)) :: l)) (cs : Array Value) (hy : a.eval y = .agg cs) (hsz : cs.size = cur.size) (hi : (P.info? ty).map (·.size) = some cs.size) (h1 : cs.all (·.oneCell') = true)
    (h : ∀ w', Owned w0 w' ((g, .cells cs t (0, 0)) :: l) → wpList P ops Q rest (a.put o.dst undef) w') : wpList P ops Q (o :: rest) a w := by
  refine wpList_store_mid hgd ty x y ho g 0 cs hx hy (hO.there 0 _ (by omega)) hi h1 (h _ ?_)
  have h2 := hO.sets cs.toList 0
  rw [putAll_whole _ _ (by simpa using hsz)] at h2
  simpa using h2
end
end Go.Sep
