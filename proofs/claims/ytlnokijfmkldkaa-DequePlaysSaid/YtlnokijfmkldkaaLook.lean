/- Own memory as a map from blocks to what they hold. -/
import Derived.Test.YtlnokijfmkldkaaSep
namespace Go.Sep
open Go Go.RowKit
def lookB : Own → Nat → Option Obj
  | [], _ => none
  | p :: r, b => if p.1 = b then some p.2 else lookB r b
def setBk : Own → Nat → Obj → Own
  | [], _, _ => []
  | p :: r, b, o => if p.1 = b then (b, o) :: r else p :: setBk r b o
theorem look_mem : ∀ {r : Own} {b : Nat} {o : Obj}, lookB r b = some o → (b, o) ∈ r
  | [], _, _, h => by simp [lookB] at h
  | p :: r, b, o, h => by
    rw [lookB] at h
    split at h
    · next e => cases h; rw [← e]; simp
    · exact List.mem_cons_of_mem _ (look_mem h)
theorem look_setBk_same : ∀ {r : Own} {b : Nat} {o : Obj} (o' : Obj), lookB r b = some o → lookB (setBk r b o') b = some o'
  | [], _, _, _, h => by simp [lookB] at h
  | p :: r, b, o, o', h => by
    rw [lookB] at h
    rw [setBk]
    split at h
    · next e => rw [if_pos e, lookB, if_pos rfl]
    · next e => rw [if_neg e, lookB, if_neg e]; exact look_setBk_same o' h
theorem look_setBk_ne : ∀ (r : Own) {b c : Nat} (o' : Obj), c ≠ b → lookB (setBk r b o') c = lookB r c
  | [], _, _, _, _ => rfl
  | p :: r, b, c, o', h => by
    rw [setBk]
    by_cases e : p.1 = b
    · rw [if_pos e, lookB, lookB, if_neg (Ne.symm h), if_neg (fun e2 => h (by rw [← e2, e]))]
    · rw [if_neg e, lookB, lookB, look_setBk_ne r o' h]
theorem setBk_twice : ∀ (r : Own) (b : Nat) (o o' : Obj), setBk (setBk r b o) b o' = setBk r b o'
  | [], _, _, _ => rfl
  | p :: r, b, o, o' => by
    rw [setBk, setBk]
    by_cases e : p.1 = b
    · rw [if_pos e, if_pos e, setBk, if_pos rfl]
    · rw [if_neg e, if_neg e, setBk, if_neg e, setBk_twice]
theorem look_split : ∀ {r : Own} {b : Nat} {o : Obj}, lookB r b = some o → ∃ r1 r2, r = r1 ++ (b, o) :: r2 ∧ ∀ o', setBk r b o' = r1 ++ (b, o') :: r2
  | [], _, _, h => by simp [lookB] at h
  | p :: r, b, o, h => by
    rw [lookB] at h
    split at h
    · next e =>
      cases h
      obtain ⟨a, x⟩ := p
      obtain rfl : a = b := e
      exact ⟨[], r, rfl, fun o' => by rw [setBk, if_pos rfl]; rfl⟩
    · next e =>
      obtain ⟨r1, r2, h1, h2⟩ := look_split h
      exact ⟨p :: r1, r2, by rw [h1]; rfl, fun o' => by rw [setBk, if_neg e, h2]; rfl⟩
theorem look_append_none : ∀ {r : Own} (s : Own) {b : Nat}, lookB r b = none → lookB (r ++ s) b = lookB s b
  | [], _, _, _ => rfl
  | p :: r, s, b, h => by
    rw [lookB] at h
    rw [List.cons_append, lookB]
    split at h
    · cases h
    · next e => rw [if_neg e]; exact look_append_none s h
theorem look_cons_ne {p : Nat × Obj} {r : Own} {b : Nat} (h : p.1 ≠ b) : lookB (p :: r) b = lookB r b := by rw [lookB, if_neg h]
theorem look_cons_self (b : Nat) (o : Obj) (r : Own) : lookB ((b, o) :: r) b = some o := by rw [lookB, if_pos rfl]
section
variable {w0 w : World} {r F : Own} {b : Nat}
theorem Owned.look_at {o : Obj} (h : Owned w0 w (r ++ F)) (hl : lookB r b = some o) : w0.heap.size ≤ b ∧ w.heap[b]? = some o := h.at_ (b, o) (List.mem_append_left _ (look_mem hl))
theorem Owned.look_lt {o : Obj} (h : Owned w0 w (r ++ F)) (hl : lookB r b = some o) : b < w.heap.size := (Array.getElem?_eq_some_iff.1 (h.look_at hl).2).1
theorem Owned.look_cell {cs : Array Value} {t : TypeId} {fz : Nat × Nat} (h : Owned w0 w (r ++ F)) (hl : lookB r b = some (.cells cs t fz)) (i : Nat) : w.cell? ⟨b, i, none⟩ = cs[i]? := by
  simp [World.cell?, (h.look_at hl).2]
theorem Owned.look_free {cs : Array Value} {t : TypeId} (h : Owned w0 w (r ++ F)) (hl : lookB r b = some (.cells cs t (0, 0))) (i : Nat) : w.frozen? ⟨b, i, none⟩ = false := by
  simp [World.frozen?, (h.look_at hl).2]
theorem look_front {o : Obj} (hl : lookB r b = some o) : ∃ l, (r ++ F).Perm ((b, o) :: l) ∧ ∀ o', ((b, o') :: l).Perm (setBk r b o' ++ F) := by
  obtain ⟨r1, r2, h1, h2⟩ := look_split hl
  refine ⟨r1 ++ (r2 ++ F), ?_, fun o' => ?_⟩
  · rw [h1, List.append_assoc]
    exact List.perm_middle
  · rw [h2, List.append_assoc]
    exact List.perm_middle.symm
theorem Owned.set_at {cs : Array Value} {t : TypeId} {fz : Nat × Nat} (h : Owned w0 w (r ++ F)) (hl : lookB r b = some (.cells cs t fz)) (i : Nat) (v : Value) :
    Owned w0 (w.setCell ⟨b, i, none⟩ v) (setBk r b (.cells (cs.setIfInBounds i v) t fz) ++ F) := by
  obtain ⟨l, h1, h2⟩ := look_front (F := F) hl
  exact (Owned.set (h.perm h1) i v).perm (h2 _)
/-- one block was turned, others are as they were -/
theorem Owned.turn_at {o o' : Obj} {w' : World} (h : Owned w0 w (r ++ F)) (hl : lookB r b = some o) (hg : w.grownBy w' (some b)) (ho : w'.heap[b]? = some o') : Owned w0 w' (setBk r b o' ++ F) := by
  obtain ⟨l, h1, h2⟩ := look_front (F := F) hl
  have h3 := h.perm h1
  have hn := h3.nodup
  simp only [List.map_cons, List.nodup_cons] at hn
  have ht : Owned w0 w' l := h3.tail.grown hg (fun k hk => by cases hk; exact h3.base) (fun p hp he => hn.1 (List.mem_map.2 ⟨p, hp, by cases he; rfl⟩))
  have h4 : Owned w0 w' ((b, o') :: l) := by
    refine ⟨ht.below, by simpa using hn, ?_⟩
    intro p hp
    rcases List.mem_cons.1 hp with rfl | hp
    · exact ⟨h3.base, ho⟩
    · exact ht.at_ p hp
  exact h4.perm (h2 _)
end
end Go.Sep
