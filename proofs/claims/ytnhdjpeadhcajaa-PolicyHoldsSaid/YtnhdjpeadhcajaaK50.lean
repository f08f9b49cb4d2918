/- Merged texts: Layer 11, PolicyHolds: what the statement reckons beside the policy, in plain Lean. -/
import Derived.Test.YtnhdjpeadhcajaaK49
namespace Go.Proofs.Ytnhdjpeadhcajaa
open Go.RowKit Go.Sep DqPure
theorem uniqP : ∀ l : List (Int × Int), (idsL l).Nodup → ∀ p ∈ l, ∀ q ∈ l, p.1 = q.1 → p = q
  | [], _, p, hp, _, _, _ => by cases hp
  | x :: l, hn, p, hp, q, hq, e => by
    have hn2 : x.1 ∉ idsL l ∧ (idsL l).Nodup := List.nodup_cons.1 hn
    rcases List.mem_cons.1 hp with rfl | hp2
    · rcases List.mem_cons.1 hq with rfl | hq2
      · rfl
      · exact absurd (show p.1 ∈ idsL l from List.mem_map.2 ⟨q, hq2, e.symm⟩) hn2.1
    · rcases List.mem_cons.1 hq with rfl | hq2
      · exact absurd (show q.1 ∈ idsL l from List.mem_map.2 ⟨p, hp2, e⟩) hn2.1
      · exact uniqP l hn2.2 p hp2 q hq2 e
def atL (L : List (Int × Int)) (k : Nat) : Int × Int := L.getD k (0, 0)
theorem atL_mem {L : List (Int × Int)} {k : Nat} (h : k < L.length) : atL L k ∈ L := by
  unfold atL
  rw [List.getD_eq_getElem?_getD, List.getElem?_eq_getElem h]
  exact List.getElem_mem h
def wasF (nd : Int) (L : List (Int × Int)) : Nat → Int
  | 0 => 0
  | k + 1 => if (atL L k).1 = nd then (atL L k).2 else wasF nd L k
theorem wasF_of {nd z : Int} {L : List (Int × Int)} (hn : (idsL L).Nodup) (hz : (nd, z) ∈ L) : ∀ k, k ≤ L.length → (∃ j, j < k ∧ (atL L j).1 = nd) → wasF nd L k = z
  | 0, _, ⟨j, hj, _⟩ => absurd hj (by omega)
  | k + 1, hk, ⟨j, hj, e⟩ => by
    rw [wasF]
    by_cases h : (atL L k).1 = nd
    · rw [if_pos h, uniqP L hn _ (atL_mem (by omega)) _ hz h]
    · rw [if_neg h]
      refine wasF_of hn hz k (by omega) ⟨j, ?_, e⟩
      have : j ≠ k := fun e2 => h (by rw [← e2]; exact e)
      omega
theorem wasF_all {nd z : Int} {L : List (Int × Int)} (hn : (idsL L).Nodup) (hz : (nd, z) ∈ L) : wasF nd L L.length = z := by
  refine wasF_of hn hz _ (Nat.le_refl _) ?_
  obtain ⟨j, hj, e⟩ := List.getElem_of_mem hz
  exact ⟨j, hj, by unfold atL; rw [List.getD_eq_getElem?_getD, List.getElem?_eq_getElem hj, e]; rfl⟩
/-- a node that is updated, or is as it was -/
def updP (nd wt : Int) (b3 : Bool) (p : Int × Int) : Int × Int := if p.1 = nd ∧ b3 = true then (p.1, wt) else p
def keepP (gone : List Int) (nd : Int) (b4 : Bool) (p : Int × Int) : Bool := !decide (p.1 ∈ gone) && !(decide (p.1 = nd) && b4)
def leftF (gone : List Int) (nd wt : Int) (b3 b4 : Bool) (L : List (Int × Int)) : Nat → List (Int × Int)
  | 0 => []
  | k + 1 => if keepP gone nd b4 (atL L k) = true then leftF gone nd wt b3 b4 L k ++ [updP nd wt b3 (atL L k)] else leftF gone nd wt b3 b4 L k
theorem leftF_take (gone : List Int) (nd wt : Int) (b3 b4 : Bool) (L : List (Int × Int)) : ∀ k, k ≤ L.length → leftF gone nd wt b3 b4 L k = ((L.take k).filter (keepP gone nd b4)).map (updP nd wt b3)
  | 0, _ => rfl
  | k + 1, hk => by
    have ih := leftF_take gone nd wt b3 b4 L k (by omega)
    have e : L.take (k + 1) = L.take k ++ [atL L k] := by
      rw [List.take_add_one, List.getElem?_eq_getElem (by omega)]
      unfold atL
      rw [List.getD_eq_getElem?_getD, List.getElem?_eq_getElem (by omega)]
      rfl
    rw [leftF, e, List.filter_append, List.map_append, ih]
    by_cases h : keepP gone nd b4 (atL L k) = true
    · rw [if_pos h, List.filter_cons_of_pos h]
      rfl
    · rw [if_neg h, List.filter_cons_of_neg h]
      exact (List.append_nil _).symm
theorem leftF_all (gone : List Int) (nd wt : Int) (b3 b4 : Bool) (L : List (Int × Int)) : leftF gone nd wt b3 b4 L L.length = (L.filter (keepP gone nd b4)).map (updP nd wt b3) := by
  rw [leftF_take _ _ _ _ _ _ _ (Nat.le_refl _), List.take_length]
theorem leftF_len (gone : List Int) (nd wt : Int) (b3 b4 : Bool) (L : List (Int × Int)) : ∀ k, (leftF gone nd wt b3 b4 L k).length ≤ k
  | 0 => Nat.le_refl _
  | k + 1 => by
    have := leftF_len gone nd wt b3 b4 L k
    rw [leftF]
    split
    · rw [List.length_append]; simp; omega
    · omega
theorem out_len : ∀ (g : List Int) (M : List (Int × Int)), (idsL M).Nodup → g.Nodup → (∀ x ∈ g, inL x M = true) → (outL g M).length + g.length = M.length
  | [], M, _, _, _ => by rw [out_nil]; rfl
  | id :: g, M, hn, hg, hs => by
    have hg2 := List.nodup_cons.1 hg
    rw [← out_cons]
    obtain ⟨xs, z, ys, e1, -, e2, -⟩ := split_in hn (hs id List.mem_cons_self)
    have ih := out_len g (remL id M) (hn.sublist (List.filter_sublist.map _)) hg2.2 (fun x hx => by
      rw [inL_rem, if_neg (fun e => hg2.1 (by rw [← e]; exact hx))]
      exact hs x (List.mem_cons_of_mem _ hx))
    have hl : (remL id M).length + 1 = M.length := by
      rw [e2, e1, List.length_append, List.length_append, List.length_cons]
      omega
    rw [List.length_cons]
    omega
theorem pre_perm {L M : List (Int × Int)} (h : L.Perm M) (d nd wt : Int) : (preL L d nd wt).Perm (preL M d nd wt) := by
  unfold preL
  split
  · exact h.append_right _
  · split
    · exact h.map _
    · split
      · exact h.filter _
      · exact h
/-- behind an event: what is left, by the statement's own reckoning -/
theorem holds_step {P : PSt} (hG : GoodP P) (hw : P.wt ≤ P.cap) {L : List (Int × Int)} (hL : L.Perm P.all) (d nd key wt : Int) (L1 : List (Int × Int))
    (h1 : L1 = if (P.act d nd key wt).2.2 = 0 ∧ d = 1 then L ++ [(nd, wt)] else L) (b3 b4 : Bool) (h3 : b3 = decide ((P.act d nd key wt).2.2 = 0 ∧ d = 3)) (h4 : b4 = decide ((P.act d nd key wt).2.2 = 0 ∧ d = 4)) :
    (leftF (P.act d nd key wt).2.1 nd wt b3 b4 L1 L1.length).Perm (P.act d nd key wt).1.all ∧ (P.act d nd key wt).1.wt ≤ (P.act d nd key wt).1.cap ∧
    ((leftF (P.act d nd key wt).2.1 nd wt b3 b4 L1 L1.length).length + (P.act d nd key wt).2.1.length = L1.length ∨ ((P.act d nd key wt).2.2 = 0 ∧ d = 4 ∧ (leftF (P.act d nd key wt).2.1 nd wt b3 b4 L1 L1.length).length + 1 = L1.length)) ∧
    ((P.act d nd key wt).2.1 ≠ [] → (P.act d nd key wt).2.2 = 0 ∧ (d = 1 ∨ d = 3 ∧ ¬ wt ≤ wasF nd L L.length)) ∧ ((P.act d nd key wt).2.2 = 0 → d ≠ 1 → nd ∈ idsL L) := by
  rw [leftF_all]
  obtain ⟨a1, a2, a3⟩ := act_spec hG d nd key wt
  have hnL : (idsL L).Nodup := (hL.map _).nodup_iff.2 hG.nd
  by_cases he : (P.act d nd key wt).2.2 = 0
  · have ok := a3 he
    have hall := ok.all.trans ((pre_perm hL.symm d nd wt).filter _)
    have hsum : sumW (preL L d nd wt) ≤ P.cap → (P.act d nd key wt).2.1 = [] := fun h => ok.none (by rw [← sumW_perm (pre_perm hL d nd wt)]; exact h)
    have hsub : ∀ x ∈ (P.act d nd key wt).2.1, inL x (preL L d nd wt) = true := fun x hx => by rw [inL_perm (pre_perm hL d nd wt)]; exact ok.sub x hx
    have hold : d ≠ 1 → inL nd L = true := fun h => by rw [inL_perm hL, ← all_has]; exact ok.old h
    have hnod := ok.nod
    have hle : (P.act d nd key wt).1.wt ≤ (P.act d nd key wt).1.cap := by
      rw [a2]
      by_cases h13 : d = 1 ∨ d = 3
      · exact ok.le h13
      · have h24 : d = 2 ∨ d = 4 := by have := ok.dd; omega
        have hst := ok.still h24
        rw [hst] at hall
        rw [all_wt, sumW_perm (ok.all.trans (by rw [hst, out_nil]))]
        rcases h24 with h | h
        · rw [show preL P.all d nd wt = P.all by rw [h]; rfl, ← all_wt]
          exact hw
        · rw [show preL P.all d nd wt = remL nd P.all by rw [h]; rfl]
          have := sum_rem nd P.all hG.pos
          rw [← all_wt] at this
          omega
    have hstill := ok.still
    generalize (P.act d nd key wt).2.1 = g at *
    have hd := ok.dd
    have hcases : d = 1 ∨ d = 2 ∨ d = 3 ∨ d = 4 := by omega
    have hperm : ((L1.filter (keepP g nd b4)).map (updP nd wt b3)).Perm (outL g (preL L d nd wt)) := by
      rcases hcases with e | e | e | e
      · have e1 : L1 = preL L d nd wt := by rw [h1, if_pos ⟨he, e⟩, e]; rfl
        have e3 : b3 = false := by rw [h3, e]; simp
        have e4 : b4 = false := by rw [h4, e]; simp
        rw [← e1, e3, e4]
        have f1 : keepP g nd false = fun p => !g.contains p.1 := by funext p; unfold keepP; simp
        have f2 : updP nd wt false = id := by funext p; unfold updP; simp
        rw [f1, f2, List.map_id]
        exact List.Perm.refl _
      · have e1 : L1 = preL L d nd wt := by rw [h1, if_neg (by omega), e]; rfl
        have e3 : b3 = false := by rw [h3, e]; simp
        have e4 : b4 = false := by rw [h4, e]; simp
        rw [← e1, e3, e4]
        have f1 : keepP g nd false = fun p => !g.contains p.1 := by funext p; unfold keepP; simp
        have f2 : updP nd wt false = id := by funext p; unfold updP; simp
        rw [f1, f2, List.map_id]
        exact List.Perm.refl _
      · have e1 : L1 = L := by rw [h1, if_neg (by omega)]
        have e3 : b3 = true := by rw [h3]; exact decide_eq_true ⟨he, e⟩
        have e4 : b4 = false := by rw [h4, e]; simp
        rw [e1, e3, e4, show preL L d nd wt = setL nd wt L by rw [e]; rfl]
        have f1 : keepP g nd false = fun p => !g.contains p.1 := by funext p; unfold keepP; simp
        rw [f1]
        unfold outL setL
        rw [List.filter_map]
        have f2 : ∀ p : Int × Int, updP nd wt true p = if p.1 = nd then (nd, wt) else p := fun p => by
          unfold updP
          by_cases hp : p.1 = nd
          · rw [if_pos ⟨hp, rfl⟩, if_pos hp, hp]
          · rw [if_neg (fun h => hp h.1), if_neg hp]
        rw [show (updP nd wt true) = (fun p => if p.1 = nd then (nd, wt) else p) from funext f2]
        have f3 : ((fun p : Int × Int => !g.contains p.1) ∘ fun p => if p.1 = nd then (nd, wt) else p) = fun p => !g.contains p.1 := by
          funext p
          show (!g.contains (if p.1 = nd then (nd, wt) else p).1) = _
          by_cases hp : p.1 = nd
          · rw [if_pos hp, hp]
          · rw [if_neg hp]
        rw [f3]
      · have e1 : L1 = L := by rw [h1, if_neg (by omega)]
        have e3 : b3 = false := by rw [h3, e]; simp
        have e4 : b4 = true := by rw [h4]; exact decide_eq_true ⟨he, e⟩
        have hg0 : g = [] := hstill (.inr e)
        rw [e1, e3, e4, hg0, out_nil, show preL L d nd wt = remL nd L by rw [e]; rfl]
        have f1 : keepP [] nd true = fun p => p.1 != nd := by funext p; unfold keepP; simp [bne, BEq.beq]
        have f2 : updP nd wt false = id := by funext p; unfold updP; simp
        rw [f1, f2, List.map_id]
        exact List.Perm.refl _
    refine ⟨hperm.trans hall.symm, hle, ?_, ?_, fun _ h => in_ids.1 (hold h)⟩
    · rw [hperm.length_eq]
      by_cases e4 : d = 4
      · right
        refine ⟨he, e4, ?_⟩
        rw [hstill (.inr e4), out_nil, show preL L d nd wt = remL nd L by rw [e4]; rfl, h1, if_neg (by omega)]
        obtain ⟨xs, z, ys, f1, -, f2, -⟩ := split_in hnL (hold (by omega))
        rw [f2, f1, List.length_append, List.length_append, List.length_cons]
        omega
      · left
        have hn2 : (idsL (preL L d nd wt)).Nodup := by
          rcases hcases with e | e | e | e
          · rw [show preL L d nd wt = L ++ [(nd, wt)] by rw [e]; rfl]
            unfold idsL
            rw [List.map_append]
            refine List.nodup_append.2 ⟨hnL, by simp, ?_⟩
            intro x hx y hy e2
            have hy2 : y = nd := by simpa using hy
            have h5 : inL nd L = true := in_ids.2 (by rw [← hy2, ← e2]; exact hx)
            rw [inL_perm hL, ← all_has, ok.new e] at h5
            cases h5
          · rw [show preL L d nd wt = L by rw [e]; rfl]; exact hnL
          · rw [show preL L d nd wt = setL nd wt L by rw [e]; rfl, ids_set]; exact hnL
          · exact absurd e e4
        rw [out_len g _ hn2 hnod hsub]
        rcases hcases with e | e | e | e
        · rw [h1, if_pos ⟨he, e⟩, e]; rfl
        · rw [h1, if_neg (by omega), e]; rfl
        · rw [h1, if_neg (by omega), show preL L d nd wt = setL nd wt L by rw [e]; rfl]
          exact List.length_map ..
        · exact absurd e e4
    · intro hne
      refine ⟨he, ?_⟩
      rcases hcases with e | e | e | e
      · exact .inl e
      · exact absurd (hstill (.inl e)) hne
      · refine .inr ⟨e, fun hwas => hne (hsum ?_)⟩
        obtain ⟨xs, z, ys, f1, -, -, f2⟩ := split_in hnL (hold (by omega))
        rw [wasF_all hnL (z := z) (by rw [f1]; simp)] at hwas
        rw [show preL L d nd wt = setL nd wt L by rw [e]; rfl, f2 wt]
        have hs : sumW L ≤ P.cap := by rw [sumW_perm hL, ← all_wt]; exact hw
        rw [f1, sumW_append] at hs
        rw [sumW_append]
        have : sumW xs + (z + sumW ys) ≤ P.cap := hs
        show sumW xs + (wt + sumW ys) ≤ P.cap
        omega
      · exact absurd (hstill (.inr e)) hne
  · obtain ⟨c1, c2⟩ := act_bad he
    have e1 : L1 = L := by rw [h1, if_neg (fun h => he h.1)]
    have e3 : b3 = false := by rw [h3]; exact decide_eq_false (fun h => he h.1)
    have e4 : b4 = false := by rw [h4]; exact decide_eq_false (fun h => he h.1)
    have f : (L1.filter (keepP [] nd b4)).map (updP nd wt b3) = L := by
      rw [e1, e3, e4]
      have f1 : keepP [] nd false = fun _ => true := by funext p; unfold keepP; simp
      have f2 : updP nd wt false = id := by funext p; unfold updP; simp
      rw [f1, f2, List.map_id]
      exact List.filter_eq_self.2 (fun _ _ => rfl)
    rw [c1, c2, f]
    exact ⟨hL, hw, .inl (by rw [e1]; rfl), fun h => absurd rfl h, fun h => absurd h he⟩
end Go.Proofs.Ytnhdjpeadhcajaa
