/- Merged texts: Layer 7: rows of elements, each a ring through its row's end: what taking out and putting in leave. -/
import Derived.Test.YtnhdjpeadhcajaaK17
import Derived.Test.YtnhdjpeadhcajaaK18
namespace Go.Proofs.Ytnhdjpeadhcajaa
open Go.RowKit Go.Sep DqPure
def updS {α : Type} (f : Nat → α) (i : Nat) (v : α) : Nat → α := fun j => if j = i then v else f j
theorem updS_same {α : Type} (f : Nat → α) (i : Nat) (v : α) : updS f i v i = v := by unfold updS; rw [if_pos rfl]
theorem updS_ne {α : Type} (f : Nat → α) {i j : Nat} (v : α) (h : j ≠ i) : updS f i v j = f j := by unfold updS; rw [if_neg h]
theorem updI_self (f : Nat → Int) (i : Nat) : updI f i (f i) = f := by funext j; unfold updI; by_cases e : j = i; (rw [if_pos e, e]); (rw [if_neg e])
def wsum (wt : Nat → Int) : List Nat → Int
  | [] => 0
  | b :: bs => wt b + wsum wt bs
theorem wsum_append (wt : Nat → Int) : ∀ (xs ys : List Nat), wsum wt (xs ++ ys) = wsum wt xs + wsum wt ys
  | [], ys => by simp [wsum]
  | x :: xs, ys => by rw [List.cons_append, wsum, wsum, wsum_append wt xs ys]; omega
theorem wsum_congr {wt wt' : Nat → Int} : ∀ {xs : List Nat}, (∀ b ∈ xs, wt' b = wt b) → wsum wt' xs = wsum wt xs
  | [], _ => rfl
  | x :: xs, h => by rw [wsum, wsum, h x (by simp), wsum_congr (fun b hb => h b (by simp [hb]))]
theorem wsum_bd {wt : Nat → Int} : ∀ {xs : List Nat}, (∀ b ∈ xs, 0 ≤ wt b ∧ wt b ≤ 2147483648) → 0 ≤ wsum wt xs ∧ wsum wt xs ≤ 2147483648 * (xs.length : Int)
  | [], _ => by simp [wsum]
  | x :: xs, h => by
    have h1 := h x (by simp)
    have h2 := wsum_bd (xs := xs) (fun b hb => h b (by simp [hb]))
    rw [wsum, List.length_cons]
    omega
def totl {α : Type} (S : Nat → List α) : Nat → Nat
  | 0 => 0
  | k + 1 => totl S k + (S k).length
theorem totl_ge {α : Type} (S : Nat → List α) : ∀ (m : Nat) {k : Nat}, k < m → (S k).length ≤ totl S m
  | 0, k, h => absurd h (Nat.not_lt_zero k)
  | m + 1, k, h => by
    rw [totl]
    by_cases e : k = m
    · subst e; omega
    · have := totl_ge S m (k := k) (by omega); omega
theorem totl_out {α : Type} (S : Nat → List α) {k : Nat} (l : List α) : ∀ (m : Nat), m ≤ k → totl (updS S k l) m = totl S m
  | 0, _ => rfl
  | m + 1, h => by rw [totl, totl, totl_out (k := k) S l m (by omega), updS_ne (i := k) (j := m) S l (by omega)]
theorem totl_upd {α : Type} (S : Nat → List α) {k : Nat} (l : List α) : ∀ (m : Nat), k < m → totl (updS S k l) m + (S k).length = totl S m + l.length
  | 0, h => absurd h (Nat.not_lt_zero k)
  | m + 1, h => by
    rw [totl, totl]
    by_cases e : k = m
    · subst e
      rw [totl_out S l k (Nat.le_refl _), updS_same]; omega
    · have := totl_upd (k := k) S l m (by omega)
      rw [updS_ne _ _ (Ne.symm e)]; omega
/-- the elements of the rows -/
def inS (m : Nat) (S : Nat → List Nat) (b : Nat) : Prop := ∃ k, k < m ∧ b ∈ S k
structure DqL (X : Own) (m : Nat) (L : Nat → Nat) (S : Nat → List Nat) (nx pv li : Nat → Nat) (id wt : Nat → Int) (LW : Nat → Int) (LN : Nat → Nat) (r : Own) : Prop where
  nodes : Nodes X m L (inS m S) nx pv li id wt LW LN r
  seg : ∀ k, k < m → Seg nx pv (L k) (S k) (L k)
  nd : ∀ k, k < m → (S k).Nodup
  dj : ∀ j k, j < m → k < m → j ≠ k → ∀ b ∈ S j, b ∉ S k
  li_ : ∀ k, k < m → ∀ b ∈ S k, li b = L k
  ir : ∀ k, k < m → ∀ b ∈ S k, 1 ≤ id b ∧ id b ≤ 65536 ∧ 0 ≤ wt b ∧ wt b ≤ 2147483648
  lw : ∀ k, k < m → LW k = wsum wt (S k)
  ln : ∀ k, k < m → LN k = (S k).length
section
variable {X : Own} {m n : Nat} {L : Nat → Nat} {S : Nat → List Nat} {nx pv li : Nat → Nat} {id wt : Nat → Int} {LW : Nat → Int} {LN : Nat → Nat} {r r' : Own}
theorem DqL.ne (h : DqL X m L S nx pv li id wt LW LN r) {j k b : Nat} (hj : j < m) (hk : k < m) (hb : b ∈ S k) : b ≠ L j := h.nodes.sep hj ⟨k, hk, hb⟩
theorem DqL.ndl (h : DqL X m L S nx pv li id wt LW LN r) {k : Nat} (hk : k < m) : (L k :: S k).Nodup :=
  List.nodup_cons.2 ⟨fun hb => h.ne hk hk hb rfl, h.nd k hk⟩
theorem DqL.prev_node (h : DqL X m L S nx pv li id wt LW LN r) {k b : Nat} {xs ys : List Nat} (hk : k < m) (hS : S k = xs ++ b :: ys) : isNode m L (inS m S) (pv b) ∧ isNode m L (inS m S) (nx b) ∧ pv b ∈ L k :: xs ∧ nx b = fst ys (L k) := by
  have hs := h.seg k hk
  rw [hS] at hs
  obtain ⟨h1, h2⟩ := Seg.append.1 hs
  have e1 := h1.last
  have e2 := h2.first
  have hm := lst_mem xs (L k)
  rw [← e1] at hm
  refine ⟨?_, ?_, hm, e2⟩
  · rcases List.mem_cons.1 hm with e | hm
    · exact Or.inr ⟨k, hk, e⟩
    · exact Or.inl ⟨k, hk, by rw [hS]; simp [hm]⟩
  · rw [e2]
    cases ys with
    | nil => exact Or.inr ⟨k, hk, rfl⟩
    | cons c ys => exact Or.inl ⟨k, hk, by rw [hS]; simp [fst]⟩
theorem inS_unlink {k b : Nat} {xs ys : List Nat} (hS : S k = xs ++ b :: ys) {c : Nat} (h : inS m (updS S k (xs ++ ys)) c) : inS m S c := by
  obtain ⟨j, hj, hc⟩ := h
  refine ⟨j, hj, ?_⟩
  by_cases e : j = k
  · subst e
    rw [updS_same] at hc
    rw [hS]
    simp only [List.mem_append, List.mem_cons] at hc ⊢
    rcases hc with hc | hc
    · exact Or.inl hc
    · exact Or.inr (Or.inr hc)
  · rw [updS_ne _ _ e] at hc
    exact hc
/-- an element is taken out -/
theorem DqL.unlink {k b : Nat} {xs ys : List Nat} (h : DqL X m L S nx pv li id wt LW LN r) (hk : k < m) (hS : S k = xs ++ b :: ys)
    (hN : Nodes X m L (inS m S) (upd nx (pv b) (nx b)) (upd pv (nx b) (pv b)) li id wt (updI LW k (LW k - wt b)) (upd LN k (LN k - 1)) r') :
    DqL X m L (updS S k (xs ++ ys)) (upd nx (pv b) (nx b)) (upd pv (nx b) (pv b)) li id wt (updI LW k (LW k - wt b)) (upd LN k (LN k - 1)) r' := by
  obtain ⟨-, -, hp, hq⟩ := h.prev_node hk hS
  have hsub : ∀ c ∈ xs ++ ys, c ∈ S k := fun c hc => by
    rw [hS]
    simp only [List.mem_append, List.mem_cons] at hc ⊢
    rcases hc with hc | hc
    · exact Or.inl hc
    · exact Or.inr (Or.inr hc)
  have hpS : pv b ∈ L k :: S k := by
    rcases List.mem_cons.1 hp with e | hm
    · exact List.mem_cons.2 (Or.inl e)
    · exact List.mem_cons_of_mem _ (by rw [hS]; simp [hm])
  have hqS : nx b ∈ L k :: S k := by
    rw [hq]
    cases ys with
    | nil => exact List.mem_cons.2 (Or.inl rfl)
    | cons c ys => exact List.mem_cons_of_mem _ (by rw [hS]; simp [fst])
  have hout : ∀ j, j < m → j ≠ k → ∀ c, c ∈ L k :: S k → c ∉ L j :: S j := by
    intro j hj hjk c hc hc2
    rcases List.mem_cons.1 hc with e | hc
    · rcases List.mem_cons.1 hc2 with e2 | hc2
      · exact h.nodes.dL j k hj hk hjk (by rw [← e2, e])
      · exact h.ne hk hj hc2 e
    · rcases List.mem_cons.1 hc2 with e2 | hc2
      · exact h.ne hj hk hc e2
      · exact h.dj k j hk hj (Ne.symm hjk) c hc hc2
  refine ⟨hN.mono (fun c hc => inS_unlink hS hc), fun j hj => ?_, fun j hj => ?_, fun i j hi hj hij c hc => ?_, fun j hj c hc => ?_, fun j hj c hc => ?_, fun j hj => ?_, fun j hj => ?_⟩
  · by_cases e : j = k
    · subst e
      rw [updS_same]
      have hs := h.seg j hj
      have hd := h.ndl hj
      rw [hS] at hs hd
      exact hs.unlink hd
    · rw [updS_ne _ _ e]
      exact (h.seg j hj).frame (hout j hj e _ hpS) (hout j hj e _ hqS)
  · by_cases e : j = k
    · subst e
      rw [updS_same]
      have hd := h.nd j hj
      rw [hS] at hd
      exact hd.sublist (List.Sublist.append_left (List.sublist_cons_self _ _) _)
    · rw [updS_ne _ _ e]
      exact h.nd j hj
  · have hc1 : c ∈ S i := by
      by_cases e : i = k
      · subst e; rw [updS_same] at hc; exact hsub c hc
      · rw [updS_ne _ _ e] at hc; exact hc
    intro hc2
    refine h.dj i j hi hj hij c hc1 ?_
    by_cases e : j = k
    · subst e; rw [updS_same] at hc2; exact hsub c hc2
    · rw [updS_ne _ _ e] at hc2; exact hc2
  · refine h.li_ j hj c ?_
    by_cases e : j = k
    · subst e; rw [updS_same] at hc; exact hsub c hc
    · rw [updS_ne _ _ e] at hc; exact hc
  · refine h.ir j hj c ?_
    by_cases e : j = k
    · subst e; rw [updS_same] at hc; exact hsub c hc
    · rw [updS_ne _ _ e] at hc; exact hc
  · by_cases e : j = k
    · subst e
      rw [updS_same, updI_same, h.lw j hj, hS, wsum_append, wsum_append, wsum]
      omega
    · rw [updS_ne _ _ e, updI_ne _ _ e]
      exact h.lw j hj
  · by_cases e : j = k
    · subst e
      rw [updS_same, upd_same, h.ln j hj, hS]
      simp only [List.length_append, List.length_cons]
      omega
    · rw [updS_ne _ _ e, upd_ne _ _ e]
      exact h.ln j hj
/-- a block becomes an element at a row's end -/
theorem DqL.push {k b p : Nat} {i x : Int} (h : DqL X m L S nx pv li id wt LW LN r) (hk : k < m) (hb : ∀ j, j < m → b ∉ S j) (hbl : ∀ j, j < m → b ≠ L j) (hp : pv (L k) = p)
    (hi : 1 ≤ i ∧ i ≤ 65536 ∧ 0 ≤ x ∧ x ≤ 2147483648)
    (hN : Nodes X m L (fun c => inS m S c ∨ c = b) (upd (upd nx b (L k)) p b) (upd (upd pv b p) (L k) b) (upd li b (L k)) (updI id b i) (updI wt b x) (updI LW k (LW k + x)) (upd LN k (LN k + 1)) r') :
    DqL X m L (updS S k (S k ++ [b])) (upd (upd nx b (L k)) p b) (upd (upd pv b p) (L k) b) (upd li b (L k)) (updI id b i) (updI wt b x) (updI LW k (LW k + x)) (upd LN k (LN k + 1)) r' := by
  subst hp
  have hpS : pv (L k) ∈ L k :: S k := by rw [(h.seg k hk).last]; exact lst_mem _ _
  have hout : ∀ j, j < m → j ≠ k → ∀ c, c ∈ L k :: S k → c ∉ L j :: S j := by
    intro j hj hjk c hc hc2
    rcases List.mem_cons.1 hc with e | hc
    · rcases List.mem_cons.1 hc2 with e2 | hc2
      · exact h.nodes.dL j k hj hk hjk (by rw [← e2, e])
      · exact h.ne hk hj hc2 e
    · rcases List.mem_cons.1 hc2 with e2 | hc2
      · exact h.ne hj hk hc e2
      · exact h.dj k j hk hj (Ne.symm hjk) c hc hc2
  have hbj : ∀ j, j < m → b ∉ L j :: S j := fun j hj hm => by
    rcases List.mem_cons.1 hm with e | hm
    · exact hbl j hj e
    · exact hb j hj hm
  have hin : ∀ j, j < m → ∀ c ∈ updS S k (S k ++ [b]) j, c ∈ S j ∨ (c = b ∧ j = k) := fun j hj c hc => by
    by_cases e : j = k
    · subst e
      rw [updS_same] at hc
      simp only [List.mem_append, List.mem_singleton] at hc
      rcases hc with hc | hc
      · exact Or.inl hc
      · exact Or.inr ⟨hc, rfl⟩
    · rw [updS_ne _ _ e] at hc
      exact Or.inl hc
  have hneb : ∀ j, j < m → ∀ c ∈ S j, c ≠ b := fun j hj c hc e => hb j hj (e ▸ hc)
  refine ⟨hN.mono (fun c ⟨j, hj, hc⟩ => ?_), fun j hj => ?_, fun j hj => ?_, fun i' j hi' hj hij c hc => ?_, fun j hj c hc => ?_, fun j hj c hc => ?_, fun j hj => ?_, fun j hj => ?_⟩
  · rcases hin j hj c hc with hc | ⟨hc, -⟩
    · exact Or.inl ⟨j, hj, hc⟩
    · exact Or.inr hc
  · by_cases e : j = k
    · subst e
      rw [updS_same]
      exact (h.seg j hj).push (h.ndl hj) (hbj j hj)
    · rw [updS_ne _ _ e]
      refine ((h.seg j hj).frame (p := b) (q := b) (b := L k) (c := pv (L k)) (hbj j hj) (hbj j hj)).frame (hout j hj e _ hpS) (hout j hj e _ (by simp))
  · by_cases e : j = k
    · subst e
      rw [updS_same, List.nodup_append]
      refine ⟨h.nd j hj, by simp, fun c hc d hd => ?_⟩
      rw [List.mem_singleton] at hd
      rw [hd]
      exact hneb j hj c hc
    · rw [updS_ne _ _ e]
      exact h.nd j hj
  · intro hc2
    rcases hin i' hi' c hc with h1 | ⟨h1, h2⟩
    · rcases hin j hj c hc2 with h3 | ⟨h3, -⟩
      · exact h.dj i' j hi' hj hij c h1 h3
      · exact hneb i' hi' c h1 h3
    · rcases hin j hj c hc2 with h3 | ⟨-, h4⟩
      · exact hneb j hj c h3 h1
      · exact hij (by rw [h2, h4])
  · rcases hin j hj c hc with h1 | ⟨h1, h2⟩
    · rw [upd_ne _ _ (hneb j hj c h1)]
      exact h.li_ j hj c h1
    · rw [h1, h2, upd_same]
  · rcases hin j hj c hc with h1 | ⟨h1, h2⟩
    · rw [updI_ne _ _ (hneb j hj c h1), updI_ne _ _ (hneb j hj c h1)]
      exact h.ir j hj c h1
    · rw [h1, updI_same, updI_same]
      exact hi
  · by_cases e : j = k
    · subst e
      rw [updS_same, updI_same, wsum_append, wsum_congr (wt := wt) (fun c hc => updI_ne wt x (hneb j hj c hc)), wsum, wsum, updI_same, h.lw j hj]
      omega
    · rw [updS_ne _ _ e, updI_ne _ _ e, wsum_congr (wt := wt) (fun c hc => updI_ne wt x (hneb j hj c hc))]
      exact h.lw j hj
  · by_cases e : j = k
    · subst e
      rw [updS_same, upd_same, h.ln j hj]
      simp
    · rw [updS_ne _ _ e, upd_ne _ _ e]
      exact h.ln j hj
end
end Go.Proofs.Ytnhdjpeadhcajaa
