/- The arena's functions by what an arena holds: nodes by numbers, and the row of numbers that were dropped (the last one first). -/
import Derived.Test.YtepjebmiegkpnaaArena3
namespace Go.Proofs.Ytepjebmiegkpnaa
open Go.RowKit Go.Sep

/-- from the slot that was dropped last on: the slots that are free -/
def Chain (sl : List Sl) : Nat → List Nat → Prop
  | gone, [] => gone = 0
  | gone, g :: G => gone = g ∧ 1 ≤ g ∧ ∃ nx, sl[g]? = some ⟨0, 0, false, nx⟩ ∧ Chain sl nx G
theorem chain_mem {sl : List Sl} : ∀ {G : List Nat} {gone g : Nat}, Chain sl gone G → g ∈ G → ∃ nx, sl[g]? = some ⟨0, 0, false, nx⟩
  | [], _, _, _, hm => by cases hm
  | x :: G, _, g, ⟨_, _, nx, h2, h3⟩, hm => by
    rcases List.mem_cons.1 hm with rfl | hm
    · exact ⟨nx, h2⟩
    · exact chain_mem h3 hm
theorem chain_set {sl : List Sl} {i : Nat} {s : Sl} : ∀ {G : List Nat} {gone : Nat}, Chain sl gone G → i ∉ G → Chain (sl.set i s) gone G
  | [], _, h, _ => h
  | x :: G, _, ⟨h1, h0, nx, h2, h3⟩, hi => by
    simp only [List.mem_cons, not_or] at hi
    exact ⟨h1, h0, nx, by rw [List.getElem?_set_ne hi.1]; exact h2, chain_set h3 hi.2⟩
theorem chain_append {sl : List Sl} {s : Sl} : ∀ {G : List Nat} {gone : Nat}, Chain sl gone G → Chain (sl ++ [s]) gone G
  | [], _, h => h
  | x :: G, _, ⟨h1, h0, nx, h2, h3⟩ => ⟨h1, h0, nx, by rw [List.getElem?_append_left (List.getElem?_eq_some_iff.1 h2).1]; exact h2, chain_append h3⟩

theorem nodup_lt : ∀ (n : Nat) (G : List Nat), G.Nodup → (∀ g ∈ G, g < n) → G.length ≤ n
  | 0, [], _, _ => Nat.le_refl _
  | 0, x :: G, _, h => absurd (h x (by simp)) (by omega)
  | n + 1, G, hn, h => by
    by_cases hm : n ∈ G
    · have h1 := nodup_lt n (G.erase n) (hn.erase n) (fun g hg => by
        have h2 := h g (List.mem_of_mem_erase hg)
        have h3 : g ≠ n := fun e => by subst e; exact (List.Nodup.not_mem_erase hn) hg
        omega)
      rw [List.length_erase_of_mem hm] at h1
      omega
    · have h1 := nodup_lt n G hn (fun g hg => by
        have h2 := h g hg
        have h3 : g ≠ n := fun e => by subst e; exact hm hg
        omega)
      omega

/-- slots that hold the nodes S (by numbers, from 1 on), the numbers G being free -/
structure AR (sl : List Sl) (gone held : Nat) (S : List (Option (Int × Int))) (G : List Nat) : Prop where
  len : sl.length = S.length + 1
  zero : sl[0]? = some ⟨0, 0, false, 0⟩
  some_ : ∀ (i : Nat) (k w : Int), S[i]? = some (some (k, w)) → sl[i + 1]? = some ⟨k, w, true, 0⟩
  none_ : ∀ i : Nat, S[i]? = some none → i + 1 ∈ G
  chain : Chain sl gone G
  nodup : G.Nodup
  free : ∀ g ∈ G, ∃ i, g = i + 1 ∧ S[i]? = some none
  held_ : held + G.length = S.length
/-- what is under a number -/
def look (S : List (Option (Int × Int))) (id : Int) : Option (Int × Int) := if 1 ≤ id then (S[id.toNat - 1]?).join else none
section
variable {sl : List Sl} {gone held : Nat} {S : List (Option (Int × Int))} {G : List Nat}
theorem AR.look_some (h : AR sl gone held S G) {id : Int} {k v : Int} (hl : look S id = some (k, v)) : 1 ≤ id ∧ S[id.toNat - 1]? = some (some (k, v)) ∧ sl[id.toNat]? = some ⟨k, v, true, 0⟩ ∧ id.toNat ∉ G ∧ id.toNat - 1 < S.length := by
  unfold look at hl
  split at hl
  · rename_i h1
    have h2 : S[id.toNat - 1]? = some (some (k, v)) := by
      cases h3 : S[id.toNat - 1]? with
      | none => rw [h3] at hl; cases hl
      | some o => rw [h3] at hl; simp at hl; rw [hl]
    have h4 := h.some_ _ _ _ h2
    rw [show id.toNat - 1 + 1 = id.toNat by omega] at h4
    refine ⟨h1, h2, h4, fun hm => ?_, (List.getElem?_eq_some_iff.1 h2).1⟩
    obtain ⟨nx, h5⟩ := chain_mem h.chain hm
    rw [h5] at h4
    simp at h4
  · cases hl
theorem AR.look_none (h : AR sl gone held S G) {id : Int} (hl : look S id = none) : NotHeld sl id := by
  rintro ⟨h1, h2, h3⟩
  unfold look at hl
  rw [if_pos h1] at hl
  have h4 : id.toNat - 1 < S.length := by have := h.len; omega
  have h5 : S[id.toNat - 1]? = some S[id.toNat - 1] := List.getElem?_eq_getElem h4
  rw [h5] at hl
  have h6 : S[id.toNat - 1] = none := by simpa using hl
  rw [h6] at h5
  obtain ⟨nx, h7⟩ := chain_mem h.chain (h.none_ _ h5)
  rw [show id.toNat - 1 + 1 = id.toNat by omega] at h7
  rw [h7] at h3
  simp at h3
theorem AR.drop (h : AR sl gone held S G) {id : Int} {k v : Int} (hl : look S id = some (k, v)) : AR (sl.set id.toNat ⟨0, 0, false, gone⟩) id.toNat (held - 1) (S.set (id.toNat - 1) none) (id.toNat :: G) ∧ 1 ≤ held := by
  obtain ⟨h1, h2, h3, h4, h5⟩ := h.look_some hl
  have hlt : id.toNat < sl.length := by have := h.len; omega
  have hheld : 1 ≤ held := by
    have := h.held_
    have hne : G.length < S.length := by
      have h0 : 0 ∉ G := fun hm => by obtain ⟨i, hi, _⟩ := h.free 0 hm; omega
      have hle := nodup_lt (S.length + 1) (0 :: id.toNat :: G)
        (List.nodup_cons.2 ⟨by simp only [List.mem_cons, not_or]; exact ⟨by omega, h0⟩, List.nodup_cons.2 ⟨h4, h.nodup⟩⟩)
        (fun g hg => by
          rcases List.mem_cons.1 hg with rfl | hg
          · omega
          · rcases List.mem_cons.1 hg with rfl | hg
            · omega
            · obtain ⟨i, rfl, hi⟩ := h.free g hg
              have := (List.getElem?_eq_some_iff.1 hi).1
              omega)
      simp only [List.length_cons] at hle
      omega
    omega
  refine ⟨⟨by rw [List.length_set, List.length_set]; exact h.len, by rw [List.getElem?_set_ne (by omega)]; exact h.zero, ?_, ?_, ?_, ?_, ?_, ?_⟩, hheld⟩
  · intro i k' w' hi
    by_cases e : id.toNat - 1 = i
    · subst e
      rw [List.getElem?_set_self h5] at hi
      simp at hi
    · rw [List.getElem?_set_ne e] at hi
      rw [List.getElem?_set_ne (by omega)]
      exact h.some_ _ _ _ hi
  · intro i hi
    by_cases e : id.toNat - 1 = i
    · exact List.mem_cons.2 (.inl (by omega))
    · rw [List.getElem?_set_ne e] at hi
      exact List.mem_cons_of_mem _ (h.none_ _ hi)
  · exact ⟨rfl, by omega, gone, by rw [List.getElem?_set_self hlt], chain_set h.chain h4⟩
  · exact List.nodup_cons.2 ⟨h4, h.nodup⟩
  · intro g hg
    rcases List.mem_cons.1 hg with rfl | hg
    · exact ⟨id.toNat - 1, by omega, by rw [List.getElem?_set_self h5]⟩
    · obtain ⟨i, rfl, hi⟩ := h.free g hg
      refine ⟨i, rfl, ?_⟩
      rw [List.getElem?_set_ne (by rintro rfl; rw [hi] at h2; simp at h2)]
      exact hi
  · have := h.held_
    simp only [List.length_cons, List.length_set]
    omega
theorem AR.set (h : AR sl gone held S G) {id : Int} {k v k' v' : Int} (hl : look S id = some (k, v)) : AR (sl.set id.toNat ⟨k', v', true, 0⟩) gone held (S.set (id.toNat - 1) (some (k', v'))) G := by
  obtain ⟨h1, h2, h3, h4, h5⟩ := h.look_some hl
  have hlt : id.toNat < sl.length := by have := h.len; omega
  refine ⟨by rw [List.length_set, List.length_set]; exact h.len, by rw [List.getElem?_set_ne (by omega)]; exact h.zero, ?_, ?_, chain_set h.chain h4, h.nodup, ?_, by rw [List.length_set]; exact h.held_⟩
  · intro i k2 w2 hi
    by_cases e : id.toNat - 1 = i
    · subst e
      rw [List.getElem?_set_self h5] at hi
      simp only [Option.some.injEq, Prod.mk.injEq] at hi
      obtain ⟨rfl, rfl⟩ := hi
      rw [show id.toNat - 1 + 1 = id.toNat by omega, List.getElem?_set_self hlt]
    · rw [List.getElem?_set_ne e] at hi
      rw [List.getElem?_set_ne (by omega)]
      exact h.some_ _ _ _ hi
  · intro i hi
    by_cases e : id.toNat - 1 = i
    · subst e
      rw [List.getElem?_set_self h5] at hi
      simp at hi
    · rw [List.getElem?_set_ne e] at hi
      exact h.none_ _ hi
  · intro g hg
    obtain ⟨i, rfl, hi⟩ := h.free g hg
    exact ⟨i, rfl, by rw [List.getElem?_set_ne (by rintro rfl; rw [hi] at h2; simp at h2)]; exact hi⟩
theorem AR.again {x : Nat} {G' : List Nat} (h : AR sl gone held S (x :: G')) (k v : Int) : ∃ nx, sl[gone]? = some ⟨0, 0, false, nx⟩ ∧ gone = x ∧ 1 ≤ x ∧ x ≤ S.length ∧ AR (sl.set gone ⟨k, v, true, 0⟩) nx (held + 1) (S.set (x - 1) (some (k, v))) G' := by
  obtain ⟨rfl, h0, nx, h2, h3⟩ := h.chain
  have hn := List.nodup_cons.1 h.nodup
  obtain ⟨j, hj, hjS⟩ := h.free gone (by simp)
  subst hj
  have h5 : j < S.length := (List.getElem?_eq_some_iff.1 hjS).1
  have hlt : j + 1 < sl.length := by have := h.len; omega
  refine ⟨nx, h2, rfl, h0, by omega, by rw [List.length_set, List.length_set]; exact h.len, by rw [List.getElem?_set_ne (by omega)]; exact h.zero, ?_, ?_, chain_set h3 hn.1, hn.2, ?_, ?_⟩
  · intro i k2 w2 hi
    rw [Nat.add_sub_cancel] at hi
    by_cases e : j = i
    · subst e
      rw [List.getElem?_set_self h5] at hi
      simp only [Option.some.injEq, Prod.mk.injEq] at hi
      obtain ⟨rfl, rfl⟩ := hi
      rw [List.getElem?_set_self hlt]
    · rw [List.getElem?_set_ne e] at hi
      rw [List.getElem?_set_ne (by omega)]
      exact h.some_ _ _ _ hi
  · intro i hi
    rw [Nat.add_sub_cancel] at hi
    by_cases e : j = i
    · subst e
      rw [List.getElem?_set_self h5] at hi
      simp at hi
    · rw [List.getElem?_set_ne e] at hi
      rcases List.mem_cons.1 (h.none_ _ hi) with h6 | h6
      · omega
      · exact h6
  · intro g hg
    obtain ⟨i, rfl, hi⟩ := h.free g (List.mem_cons_of_mem _ hg)
    refine ⟨i, rfl, ?_⟩
    rw [Nat.add_sub_cancel, List.getElem?_set_ne (by rintro rfl; exact hn.1 hg)]
    exact hi
  · have := h.held_
    rw [List.length_set]
    simp only [List.length_cons] at this
    omega
theorem AR.new (h : AR sl gone held S []) (k v : Int) : gone = 0 ∧ AR (sl ++ [⟨k, v, true, 0⟩]) 0 (held + 1) (S ++ [some (k, v)]) [] := by
  have hg : gone = 0 := h.chain
  refine ⟨hg, by rw [List.length_append, List.length_append, h.len]; rfl, ?_, ?_, ?_, rfl, List.nodup_nil, (fun g hg => by cases hg), by have := h.held_; simp at this ⊢; omega⟩
  · rw [List.getElem?_append_left (by have := h.len; omega)]; exact h.zero
  · intro i k2 w2 hi
    by_cases e : i < S.length
    · rw [List.getElem?_append_left e] at hi
      rw [List.getElem?_append_left (by have := h.len; omega)]
      exact h.some_ _ _ _ hi
    · have hle := (List.getElem?_eq_some_iff.1 hi).1
      rw [List.length_append, List.length_singleton] at hle
      obtain rfl : i = S.length := by omega
      simp at hi
      obtain ⟨rfl, rfl⟩ := hi
      rw [← h.len]; simp
  · intro i hi
    by_cases e : i < S.length
    · rw [List.getElem?_append_left e] at hi
      exact h.none_ _ hi
    · have hle := (List.getElem?_eq_some_iff.1 hi).1
      rw [List.length_append, List.length_singleton] at hle
      obtain rfl : i = S.length := by omega
      simp at hi
end
end Go.Proofs.Ytepjebmiegkpnaa
