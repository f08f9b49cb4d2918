/- Merged texts: Layer 3: a sketch by what its rows count; the plain facts on adds. A call that leaves its own blocks as they were, whatever else there is, leaves all as it was. -/
import Derived.Test.YtnhdjpeadhcajaaK12
import Derived.Test.YtnhdjpeadhcajaaK05
import Derived.Test.YtnhdjpeadhcajaaK03
namespace Go.Proofs.Ytnhdjpeadhcajaa
open Go.RowKit NibPure Go.Sep
/-- a sketch of 16 * n counters a row: what each counts (row, place) -/
def SkAt (g : Nat) (seed : Int) (n N : Nat) (S : Nat → Nat → Nat) (r : Own) : Prop :=
  ∃ rb rw, r = skB g seed n N rb rw ∧ Rows n rw ∧ (1 ≤ n ∧ n ≤ 4096) ∧ N < 160 * n ∧ ∀ i c, i < 4 → c < 16 * n → cS rw i c = S i c
theorem mnS_congr {S T : Nat → Nat → Nat} {p : Nat → Nat} {W : Nat} (h : ∀ i c, i < 4 → c < W → S i c = T i c) (hp : ∀ k, p k < W) : mnS S p 4 = mnS T p 4 := by
  have h0 := h 0 (p 0) (by omega) (hp 0)
  have h1 := h 1 (p 1) (by omega) (hp 1)
  have h2 := h 2 (p 2) (by omega) (hp 2)
  have h3 := h 3 (p 3) (by omega) (hp 3)
  simp only [mnS, h0, h1, h2, h3]
theorem anyS_congr {S T : Nat → Nat → Nat} {p : Nat → Nat} {W : Nat} (h : ∀ i c, i < 4 → c < W → S i c = T i c) (hp : ∀ k, p k < W) : anyS S p 4 = anyS T p 4 := by
  have h0 := h 0 (p 0) (by omega) (hp 0)
  have h1 := h 1 (p 1) (by omega) (hp 1)
  have h2 := h 2 (p 2) (by omega) (hp 2)
  have h3 := h 3 (p 3) (by omega) (hp 3)
  simp only [anyS, h0, h1, h2, h3]
/-- no counter above 15 -/
def Lo (S : Nat → Nat → Nat) : Prop := ∀ i c, S i c ≤ 15
def cutS (S : Nat → Nat → Nat) : Nat → Nat → Nat := fun i c => min (S i c) 15
/-- what is counted behind an add, and behind a halving -/
def addOf (S : Nat → Nat → Nat) (p : Nat → Nat) (aged : Bool) : Nat → Nat → Nat := fun i c => if aged = true then addS S p 4 i c / 2 else addS S p 4 i c
def numOf (N : Nat) (more aged : Bool) : Nat := if aged = true then (N + 1) / 2 else if more = true then N + 1 else N
section
variable {g n N : Nat} {seed : Int} {S : Nat → Nat → Nat} {w0 w : World} {F r : Own}
theorem SkAt.n_le (h : SkAt g seed n N S r) : (1 ≤ n ∧ n ≤ 4096) ∧ N < 160 * n := by
  obtain ⟨rb, rw, rfl, hR, hn, hN, hv⟩ := h
  exact ⟨hn, hN⟩
theorem SkAt.lo (h : SkAt g seed n N S r) {i c : Nat} (hi : i < 4) (hc : c < 16 * n) : S i c ≤ 15 := by
  obtain ⟨rb, rw, rfl, hR, hn, hN, hv⟩ := h
  rw [← hv i c hi hc]
  unfold cS
  have := dg_lt ((rw i).getD (c / 16) 0) (c % 16)
  omega
theorem s_new (cap seed : Int) (h : Owned w0 w F) :
    Calls Try.prog 36 #[.int .i64 cap, .int .i64 seed] w fun e w' => ∃ g r, e = .returned (.pointer (some ⟨g, 0, none⟩)) ∧ SkAt g seed (wordN cap) 0 (fun _ _ => 0) r ∧ Owned w0 w' (r ++ F) := by
  refine (sk_new cap seed h).mono ?_
  rintro e w' ⟨g, bs, rfl, hO⟩
  rw [newB_skB] at hO
  have h1 := wordN_16 cap
  exact ⟨g, _, rfl, ⟨bs, _, rfl, zeroRows _, h1.2, by omega, fun i c _ _ => cS_zero _ _ _⟩, hO⟩
theorem s_width {W : Int} (hW : ((16 * n : Nat) : Int) = W) (hr : SkAt g seed n N S r) (h : Owned w0 w (r ++ F)) :
    Calls Try.prog 38 #[.pointer (some ⟨g, 0, none⟩)] w fun e w' => e = .returned (.int .i64 W) ∧ w = w' := by
  obtain ⟨rb, rw, rfl, hR, hn, hN, hv⟩ := hr
  subst hW
  exact sk_width h
theorem s_countB (key : Int) {m : Nat} {p : Nat → Nat} (hp : plS seed key (16 * n) = p) (hm : mnS S p 4 = m) (hr : SkAt g seed n N S r) (h : Owned w0 w (r ++ F)) :
    Calls Try.prog 61 #[.pointer (some ⟨g, 0, none⟩), .int .i64 key] w fun e w' => e = .returned (.int .i64 (m : Nat)) ∧ Below w.heap.size w w' := by
  subst hp
  obtain ⟨rb, rw, rfl, hR, hn, hN, hv⟩ := hr
  refine (sk_count key hn.1 hn.2 hR.len hR.lt h).mono ?_
  rintro e w' ⟨rfl, hb⟩
  rw [mnS_congr hv (fun k => plS_lt seed key (by omega) k), hm]
  exact ⟨rfl, hb⟩
theorem s_count (key : Int) {m : Nat} {p : Nat → Nat} (hp : plS seed key (16 * n) = p) (hm : mnS S p 4 = m) (hr : SkAt g seed n N S r) (h : Owned w0 w (r ++ F)) :
    Calls Try.prog 61 #[.pointer (some ⟨g, 0, none⟩), .int .i64 key] w fun e w' => e = .returned (.int .i64 (m : Nat)) ∧ Owned w0 w' (r ++ F) :=
  (s_countB key hp hm hr h).mono (fun _ _ ⟨he, hb⟩ => ⟨he, h.under hb⟩)
theorem s_halve (hr : SkAt g seed n N S r) (h : Owned w0 w (r ++ F)) :
    Calls Try.prog 68 #[.pointer (some ⟨g, 0, none⟩)] w fun e w' => e = .returned (.tuple #[]) ∧ ∃ r', SkAt g seed n (N / 2) (fun i c => S i c / 2) r' ∧ Owned w0 w' (r' ++ F) := by
  obtain ⟨rb, rw, rfl, hR, hn, hN, hv⟩ := hr
  refine (sk_halve hR hn.2 (by omega) h).mono ?_
  rintro e w' ⟨rfl, rw', hO, hR', hv'⟩
  refine ⟨rfl, _, ⟨rb, rw', rfl, hR', hn, by omega, fun i c hi hc => ?_⟩, hO⟩
  show dg ((rw' i).getD (c / 16) 0) (c % 16) = _
  rw [hv' i (c / 16) hi (by omega), halfN_dg _ _ (by omega)]
  exact congrArg (· / 2) (hv i c hi hc)
theorem s_add (key : Int) {more aged : Bool} {p : Nat → Nat} (hp : plS seed key (16 * n) = p) (hm : anyS S p 4 = more) (ha : (more && decide (160 * n ≤ N + 1)) = aged) (hr : SkAt g seed n N S r) (h : Owned w0 w (r ++ F)) :
    Calls Try.prog 45 #[.pointer (some ⟨g, 0, none⟩), .int .i64 key] w fun e w' =>
      e = .returned (.tuple #[.bool more, .bool aged]) ∧ ∃ r', SkAt g seed n (numOf N more aged) (addOf S p aged) r' ∧ Owned w0 w' (r' ++ F) := by
  subst hp
  obtain ⟨rb, rw, rfl, hR, hn, hN, hv⟩ := hr
  have hp := fun k => plS_lt seed key (show 1 ≤ 16 * n by omega) k
  refine (sk_add key hn.1 hn.2 hN hR h).mono ?_
  intro e w' hout
  rw [anyS_congr hv hp, hm] at hout
  have hs : ∀ i c, i < 4 → c < 16 * n → addS (cS rw) (plS seed key (16 * n)) 4 i c = addS S (plS seed key (16 * n)) 4 i c := fun i c hi hc => by
    unfold addS
    rw [hv i c hi hc]
  unfold AddOut at hout
  subst ha
  cases more with
  | false =>
    rw [if_neg (by simp)] at hout
    obtain ⟨rfl, rw', hO, hR', hv'⟩ := hout
    exact ⟨rfl, _, ⟨rb, rw', rfl, hR', hn, hN, fun i c hi hc => by rw [hv' i c hi hc, hs i c hi hc]; rfl⟩, hO⟩
  | true =>
    rw [if_pos rfl] at hout
    by_cases h160 : 160 * n ≤ N + 1
    · rw [if_pos h160] at hout
      obtain ⟨rfl, rw', hO, hR', hv'⟩ := hout
      rw [show (true && decide (160 * n ≤ N + 1)) = true by rw [decide_eq_true h160]; rfl]
      exact ⟨rfl, _, ⟨rb, rw', rfl, hR', hn, by unfold numOf; rw [if_pos rfl]; omega, fun i c hi hc => by rw [hv' i c hi hc]; unfold addOf; rw [if_pos rfl, ← hs i c hi hc]⟩, hO⟩
    · rw [if_neg h160] at hout
      obtain ⟨rfl, rw', hO, hR', hv'⟩ := hout
      rw [show (true && decide (160 * n ≤ N + 1)) = false by rw [decide_eq_false h160]; rfl]
      exact ⟨rfl, _, ⟨rb, rw', rfl, hR', hn, by unfold numOf; rw [if_neg (by simp), if_pos rfl]; omega, fun i c hi hc => by rw [hv' i c hi hc, hs i c hi hc]; rfl⟩, hO⟩
/-- the counters of a row, as a list -/
def rowN (S : Nat → Nat → Nat) (k m : Nat) : List Int := (List.range m).map (fun c => ((S k c : Nat) : Int))
theorem rowN_len (S : Nat → Nat → Nat) (k m : Nat) : (rowN S k m).length = m := by simp [rowN]
theorem rowN_get (S : Nat → Nat → Nat) (k m i : Nat) (h : i < m) : (rowN S k m).getD i 0 = ((S k i : Nat) : Int) := by
  simp [rowN, List.getD, h]
end
theorem addS_lo {S : Nat → Nat → Nat} (h : Lo S) (p : Nat → Nat) (K : Nat) : Lo (addS S p K) := fun i c => by
  have := h i c
  unfold addS
  split <;> omega
theorem addOf_lo {S : Nat → Nat → Nat} (h : Lo S) (p : Nat → Nat) (aged : Bool) : Lo (addOf S p aged) := fun i c => by
  have := addS_lo h p 4 i c
  unfold addOf
  split <;> omega
theorem half_lo {S : Nat → Nat → Nat} (h : Lo S) : Lo (fun i c => S i c / 2) := fun i c => by have := h i c; show S i c / 2 ≤ 15; omega
theorem mnS_lo {S : Nat → Nat → Nat} (h : Lo S) (p : Nat → Nat) : mnS S p 4 ≤ 15 := by
  have := h 0 (p 0)
  simp only [mnS]
  omega
theorem mnS_add {S : Nat → Nat → Nat} (h : Lo S) (p : Nat → Nat) : mnS (addS S p 4) p 4 = min (mnS S p 4 + 1) 15 := by
  have h0 := h 0 (p 0)
  have h1 := h 1 (p 1)
  have h2 := h 2 (p 2)
  have h3 := h 3 (p 3)
  have e : ∀ i, i < 4 → addS S p 4 i (p i) = min (S i (p i) + 1) 15 := fun i hi => by unfold addS; rw [if_pos ⟨hi, rfl⟩]
  simp only [mnS, e 0 (by omega), e 1 (by omega), e 2 (by omega), e 3 (by omega)]
  omega
theorem addS_mono {S : Nat → Nat → Nat} (h : Lo S) (p : Nat → Nat) (i c : Nat) : S i c ≤ addS S p 4 i c := by
  have := h i c
  unfold addS
  split <;> omega
theorem mnS_mono {S T : Nat → Nat → Nat} (h : ∀ i c, S i c ≤ T i c) (q : Nat → Nat) : mnS S q 4 ≤ mnS T q 4 := by
  have h0 := h 0 (q 0)
  have h1 := h 1 (q 1)
  have h2 := h 2 (q 2)
  have h3 := h 3 (q 3)
  simp only [mnS]
  omega
/-- a key that came alone, k times -/
def aloneS (p : Nat → Nat) (k : Nat) : Nat → Nat → Nat := fun i c => if i < 4 ∧ c = p i then min k 15 else 0
theorem aloneS_zero (p : Nat → Nat) : aloneS p 0 = fun _ _ => 0 := by
  funext i c
  unfold aloneS
  split <;> rfl
theorem aloneS_at (p : Nat → Nat) (k i : Nat) (h : i < 4) : aloneS p k i (p i) = min k 15 := by unfold aloneS; rw [if_pos ⟨h, rfl⟩]
theorem aloneS_add (p : Nat → Nat) (k : Nat) : addOf (aloneS p k) p false = aloneS p (k + 1) := by
  funext i c
  unfold addOf addS
  rw [if_neg (by simp)]
  unfold aloneS
  split <;> omega
theorem aloneS_any (p : Nat → Nat) (k : Nat) : anyS (aloneS p k) p 4 = decide (k < 15) := by
  simp only [anyS, aloneS_at p k 0 (by omega), aloneS_at p k 1 (by omega), aloneS_at p k 2 (by omega), aloneS_at p k 3 (by omega)]
  by_cases h : k < 15
  · have : min k 15 < 15 := by omega
    simp [h, this]
  · have : ¬ min k 15 < 15 := by omega
    simp [h, this]
theorem aloneS_min (p : Nat → Nat) (k : Nat) : mnS (aloneS p k) p 4 = min k 15 := by
  simp only [mnS, aloneS_at p k 0 (by omega), aloneS_at p k 1 (by omega), aloneS_at p k 2 (by omega), aloneS_at p k 3 (by omega)]
  omega
theorem aloneS_half (p : Nat → Nat) (k : Nat) : mnS (fun i c => aloneS p k i c / 2) p 4 = min k 15 / 2 := by
  simp only [mnS, aloneS_at p k 0 (by omega), aloneS_at p k 1 (by omega), aloneS_at p k 2 (by omega), aloneS_at p k 3 (by omega)]
  omega
theorem numOf_alone (k : Nat) : numOf (min k 15) (decide (k < 15)) false = min (k + 1) 15 := by
  unfold numOf
  by_cases h : k < 15
  · rw [decide_eq_true h, if_neg (by simp), if_pos rfl]; omega
  · rw [decide_eq_false h, if_neg (by simp), if_neg (by simp)]; omega
theorem s_add_alone {g n : Nat} {seed : Int} {w0 w : World} {F r : Own} (key : Int) (k : Nat) {more : Bool} {p : Nat → Nat} (hp : plS seed key (16 * n) = p) (hm : decide (k < 15) = more) (hr : SkAt g seed n (min k 15) (aloneS p k) r) (h : Owned w0 w (r ++ F)) :
    Calls Try.prog 45 #[.pointer (some ⟨g, 0, none⟩), .int .i64 key] w fun e w' =>
      e = .returned (.tuple #[.bool more, .bool false]) ∧ ∃ r', SkAt g seed n (min (k + 1) 15) (aloneS p (k + 1)) r' ∧ Owned w0 w' (r' ++ F) := by
  have hn := hr.n_le
  have := s_add key (more := more) (aged := false) hp (by rw [aloneS_any]; exact hm) (by rw [decide_eq_false (by omega)]; cases more <;> rfl) hr h
  rw [aloneS_add, ← hm, numOf_alone] at this
  rw [← hm]
  exact this
end Go.Proofs.Ytnhdjpeadhcajaa
namespace Go.Sep
open Go Go.RowKit
theorem Owned.whole {w0 w : World} {r F : Own} (h : Owned w0 w (r ++ F)) : ∃ (u : World) (G : Own), Owned u w (r ++ G) ∧ ∀ w', Owned u w' (r ++ G) → Below w.heap.size w w' := by
  obtain ⟨Gk, hGk⟩ : ∃ Gk, Gk = (List.range w.heap.size).filter (fun k => !(r.map Prod.fst).contains k) := ⟨_, rfl⟩
  have hmem : ∀ k, k ∈ Gk ↔ k < w.heap.size ∧ k ∉ r.map Prod.fst := by
    intro k
    rw [hGk, List.mem_filter, List.mem_range]
    simp
  have hnd : Gk.Nodup := by rw [hGk]; exact (List.nodup_range).filter _
  have hr : ∀ p ∈ r, w.heap[p.1]? = some p.2 := fun p hp => (h.at_ p (by simp [hp])).2
  refine ⟨{ w with heap := #[] }, Gk.map (fun k => (k, (w.heap[k]?).getD (.cells #[] 0 (0, 0)))), ⟨⟨rfl, rfl, rfl, Nat.zero_le _, fun k hk => absurd hk (Nat.not_lt_zero _)⟩, ?_, ?_⟩, ?_⟩
  · rw [List.map_append, List.map_map, List.nodup_append]
    have e : (Prod.fst ∘ fun (k : Nat) => (k, (w.heap[k]?).getD (Obj.cells #[] 0 (0, 0)))) = id := rfl
    rw [e, List.map_id]
    have hn := h.nodup
    rw [List.map_append, List.nodup_append] at hn
    exact ⟨hn.1, hnd, fun a ha b hb e2 => ((hmem b).1 hb).2 (e2 ▸ ha)⟩
  · intro p hp
    refine ⟨Nat.zero_le _, ?_⟩
    rcases List.mem_append.1 hp with hp | hp
    · exact hr p hp
    · obtain ⟨k, hk, rfl⟩ := List.mem_map.1 hp
      have hlt := ((hmem k).1 hk).1
      simp [hlt]
  · intro w' h'
    have hb : ∀ k, k < w.heap.size → w'.heap[k]? = w.heap[k]? := by
      intro k hk
      by_cases hm : k ∈ r.map Prod.fst
      · obtain ⟨p, hp, rfl⟩ := List.mem_map.1 hm
        rw [hr p hp]
        exact (h'.at_ p (by simp [hp])).2
      · have hG : (k, (w.heap[k]?).getD (Obj.cells #[] 0 (0, 0))) ∈ Gk.map (fun k => (k, (w.heap[k]?).getD (Obj.cells #[] 0 (0, 0)))) := List.mem_map.2 ⟨k, (hmem k).2 ⟨hk, hm⟩, rfl⟩
        rw [(h'.at_ _ (List.mem_append_right _ hG)).2]
        simp [hk]
    refine ⟨h'.below.os, h'.below.tape, h'.below.output, ?_, hb⟩
    rcases Nat.eq_zero_or_pos w.heap.size with h0 | h0
    · omega
    · have e2 : w.heap[w.heap.size - 1]? = some (w.heap[w.heap.size - 1]'(by omega)) := Array.getElem?_eq_getElem (by omega)
      obtain ⟨hlt, _⟩ := Array.getElem?_eq_some_iff.1 ((hb (w.heap.size - 1) (by omega)).trans e2)
      omega
theorem calls_below {P : Program} {f : FuncId} {args : Array Value} {w0 w : World} {r F : Own} {E : Ending → Prop} (h : Owned w0 w (r ++ F))
    (c : ∀ u G, Owned u w (r ++ G) → Calls P f args w fun e w' => E e ∧ Owned u w' (r ++ G)) : Calls P f args w fun e w' => E e ∧ Below w.heap.size w w' := by
  obtain ⟨u, G, hO, hb⟩ := h.whole
  exact (c u G hO).mono (fun e w' ⟨he, ho⟩ => ⟨he, hb w' ho⟩)
end Go.Sep
