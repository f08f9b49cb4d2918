/- A call that leaves its own blocks as they were, whatever else there is, leaves all as it was. -/
import Derived.Test.YtlnokijfmkldkaaSep
namespace Go.Sep
open Go Go.RowKit
theorem Owned.whole {w0 w : World} {r F : Own} (h : Owned w0 w (r ++ F)) : ∃ (u : World) (G : Own), Owned u w (r ++ G) ∧ ∀ w', Owned u w' (r ++ G) → Below w.heap.size w w' := by
  obtain ⟨Gk, hGk⟩ : ∃ Gk, Gk = (List.range w.heap.size).filter (fun k => !(r.map Prod.fst).contains k) := ⟨_, rfl⟩
  have hmem : ∀ k, k ∈ Gk ↔ k < w.heap.size ∧ k ∉ r.map Prod.fst := by
    intro k
    rw [hGk, List.mem_filter, List.mem_range]
    simp
  have hnd : Gk.Nodup := by rw [hGk]; exact (List.nodup_range).filter _
  have hr : ∀ p ∈ r, w.heap[p.1]? = some p.2 := fun p hp => (h.at_ p (by simp [hp])).2
  refine ⟨{ w with heap := #[] }, Gk.map (fun k => (k, (w.heap[k]?).getD (.cells #[] 0 (0, 0)))), ⟨⟨rfl, rfl, rfl, Nat.zero_le _, fun k hk => absurd hk (Nat.not_lt_zero _)⟩, ?_, ?_⟩, ?_⟩
  · rw [List.map_append, List.map_map, List.nodup_append]
    have e : (Prod.fst ∘ fun (k : Nat) => (k, (w.heap[k]?).getD (Obj.cells #[] 0 (0, 0)))) = id := rfl
    rw [e, List.map_id]
    have hn := h.nodup
    rw [List.map_append, List.nodup_append] at hn
    exact ⟨hn.1, hnd, fun a ha b hb e2 => ((hmem b).1 hb).2 (e2 ▸ ha)⟩
  · intro p hp
    refine ⟨Nat.zero_le _, ?_⟩
    rcases List.mem_append.1 hp with hp | hp
    · exact hr p hp
    · obtain ⟨k, hk, rfl⟩ := List.mem_map.1 hp
      have hlt := ((hmem k).1 hk).1
      simp [hlt]
  · intro w' h'
    have hb : ∀ k, k < w.heap.size → w'.heap[k]? = w.heap[k]? := by
      intro k hk
      by_cases hm : k ∈ r.map Prod.fst
      · obtain ⟨p, hp, rfl⟩ := List.mem_map.1 hm
        rw [hr p hp]
        exact (h'.at_ p (by simp [hp])).2
      · have hG : (k, (w.heap[k]?).getD (Obj.cells #[] 0 (0, 0))) ∈ Gk.map (fun k => (k, (w.heap[k]?).getD (Obj.cells #[] 0 (0, 0)))) := List.mem_map.2 ⟨k, (hmem k).2 ⟨hk, hm⟩, rfl⟩
        rw [(h'.at_ _ (List.mem_append_right _ hG)).2]
        simp [hk]
    refine ⟨h'.below.os, h'.below.tape, h'.below.output, ?_, hb⟩
    rcases Nat.eq_zero_or_pos w.heap.size with h0 | h0
    · omega
    · have e2 : w.heap[w.heap.size - 1]? = some (w.heap[w.heap.size - 1]'(by omega)) := Array.getElem?_eq_getElem (by omega)
      obtain ⟨hlt, _⟩ := Array.getElem?_eq_some_iff.1 ((hb (w.heap.size - 1) (by omega)).trans e2)
      omega
theorem calls_below {P : Program} {f : FuncId} {args : Array Value} {w0 w : World} {r F : Own} {E : Ending → Prop} (h : Owned w0 w (r ++ F))
    (c : ∀ u G, Owned u w (r ++ G) → Calls P f args w fun e w' => E e ∧ Owned u w' (r ++ G)) : Calls P f args w fun e w' => E e ∧ Below w.heap.size w w' := by
  obtain ⟨u, G, hO, hb⟩ := h.whole
  exact (c u G hO).mono (fun e w' ⟨he, ho⟩ => ⟨he, hb w' ho⟩)
end Go.Sep
