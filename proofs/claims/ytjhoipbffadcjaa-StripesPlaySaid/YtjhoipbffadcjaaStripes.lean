/- Layer 13: stripes: rings side by side, in memory. -/
import Derived.Test.YtjhoipbffadcjaaRing3
import Derived.Test.YtjhoipbffadcjaaMixW
import Derived.Test.YtjhoipbffadcjaaWhole
import Derived.Lib.QuietBelow
namespace Go.Proofs.Ytjhoipbffadcjaa
open Go.RowKit Go.Sep
/-- a ring behind the interface -/
def ifc (g : Nat) : Value := .iface 45 (.pointer (some ⟨g, 0, none⟩))
theorem ifc_one (g : Nat) : (ifc g).oneCell' = true := rfl
theorem flat_focus : ∀ (os : List Own) (i : Nat), i < os.length → os.flatten.Perm (os.getD i [] ++ (os.set i []).flatten)
  | [], _, h => absurd h (by simp)
  | o :: os, 0, _ => by simp
  | o :: os, i + 1, h => by
    have := flat_focus os i (by simpa using h)
    simp only [List.flatten_cons, List.set_cons_succ]
    have e : (o :: os).getD (i + 1) [] = os.getD i [] := by simp [List.getD]
    rw [e]
    exact (List.Perm.append_left o this).trans (perm2 _ _ _)
theorem flat_back : ∀ (os : List Own) (i : Nat) (o' : Own), i < os.length → (o' ++ (os.set i []).flatten).Perm (os.set i o').flatten
  | [], _, _, h => absurd h (by simp)
  | o :: os, 0, o', _ => by simp
  | o :: os, i + 1, o', h => by
    have := flat_back os i o' (by simpa using h)
    simp only [List.flatten_cons, List.set_cons_succ]
    exact (perm2 _ _ _).trans (List.Perm.append_left o this)
def StB (g : Nat) (seed : Int) (v : Value) (q : Own) (os : List Own) : Own := (g, .cells #[v, .int .i64 seed] 43 (0, 0)) :: (q ++ os.flatten)
structure StIn (n : Nat) (v : Value) (q : Own) (gs : List Nat) (m : Nat) (L : Nat → List Int) (G : Nat → Nat) (os : List Own) : Prop where
  row : Row 51 1 v m (gs.map ifc) q
  gl : gs.length = m
  ol : os.length = m
  m1 : 1 ≤ m
  m2 : m ≤ 64
  rings : ∀ i, i < m → Ring (gs.getD i 0) n (L i) (G i) (os.getD i [])
/-- stripes in memory: what each of m rings holds, and how many it lost -/
def StAt (g : Nat) (seed : Int) (n m : Nat) (L : Nat → List Int) (G : Nat → Nat) (r : Own) : Prop := ∃ v q gs os, r = StB g seed v q os ∧ StIn n v q gs m L G os
theorem getD_setO (os : List Own) (i j : Nat) (o : Own) : (os.set i o).getD j [] = if i = j ∧ i < os.length then o else os.getD j [] := by
  simp only [List.getD, List.getElem?_set]
  by_cases h : i = j
  · subst h
    by_cases h2 : i < os.length
    · rw [if_pos rfl, if_pos h2, if_pos ⟨rfl, h2⟩]; rfl
    · rw [if_pos rfl, if_neg h2, if_neg (fun hh => h2 hh.2), List.getElem?_eq_none (by omega)]
  · rw [if_neg h, if_neg (fun hh => h hh.1)]
def updF {α : Type} (f : Nat → α) (i : Nat) (v : α) : Nat → α := fun j => if j = i then v else f j
theorem updF_self {α : Type} (f : Nat → α) (i : Nat) (v : α) : updF f i v i = v := by unfold updF; rw [if_pos rfl]
theorem updF_ne {α : Type} (f : Nat → α) {i j : Nat} (v : α) (h : j ≠ i) : updF f i v j = f j := by unfold updF; rw [if_neg h]
theorem updF_id {α : Type} (f : Nat → α) (i : Nat) : updF f i (f i) = f := by
  funext j
  unfold updF
  split
  · next h => rw [h]
  · rfl
theorem StIn.congr {n : Nat} {v : Value} {q : Own} {gs : List Nat} {m : Nat} {L L' : Nat → List Int} {G G' : Nat → Nat} {os : List Own} (h : StIn n v q gs m L G os) (hL : ∀ i, i < m → L' i = L i) (hG : ∀ i, i < m → G' i = G i) : StIn n v q gs m L' G' os :=
  ⟨h.row, h.gl, h.ol, h.m1, h.m2, fun i hi => by rw [hL i hi, hG i hi]; exact h.rings i hi⟩
theorem StIn.set {n : Nat} {v : Value} {q : Own} {gs : List Nat} {m : Nat} {L : Nat → List Int} {G : Nat → Nat} {os : List Own} (h : StIn n v q gs m L G os) {i : Nat} (hi : i < m) {K : List Int} {lost : Nat} {o : Own} (hr : Ring (gs.getD i 0) n K lost o) :
    StIn n v q gs m (updF L i K) (updF G i lost) (os.set i o) := by
  refine ⟨h.row, h.gl, by rw [List.length_set]; exact h.ol, h.m1, h.m2, fun j hj => ?_⟩
  rw [getD_setO]
  by_cases e : i = j
  · subst e
    rw [updF_self, updF_self, if_pos ⟨rfl, by rw [h.ol]; exact hi⟩]
    exact hr
  · rw [updF_ne _ _ (Ne.symm e), updF_ne _ _ (Ne.symm e), if_neg (fun hh => e hh.1)]
    exact h.rings j hj
section
variable {g n m : Nat} {seed : Int} {L : Nat → List Int} {G : Nat → Nat} {w0 w : World} {F r : Own}
/-- what can be read of the rings' row -/
theorem row_reads {v : Value} {m : Nat} {gs : List Nat} {q : Own} (hr : Row 51 1 v m (gs.map ifc) q) : ∃ A c, v = .slice A m c ∧ (0 < m → ∃ b, A = some ⟨b, 0, none⟩ ∧ ∀ W G, Owned w0 W (q ++ G) → ∀ i, i < m → W.cell? ⟨b, i, none⟩ = some (ifc (gs.getD i 0))) := by
  obtain ⟨hl, hc⟩ := hr
  rcases hc with ⟨rfl, rfl, rfl⟩ | ⟨b, cap, cur, rfl, rfl, h1, h2, h3, h4⟩
  · exact ⟨none, 0, rfl, fun h => absurd h (by omega)⟩
  · refine ⟨some ⟨b, 0, none⟩, cap, rfl, fun _ => ⟨b, rfl, fun W G hO i hi => ?_⟩⟩
    refine (Owned.cell hO i).trans ?_
    have hlen : gs.length = m := by simpa using hl
    have h5 : cur[i]? = (cur.toList.take (m * 1))[i]? := by rw [List.getElem?_take, if_pos (by omega)]; simp
    rw [h5, h4]
    simp [List.getD, hlen, hi]
theorem st_c0 {v : Value} {q : Own} {os : List Own} (h : Owned w0 w (StB g seed v q os ++ F)) : w.cell? ⟨g, 0, none⟩ = some v := (Owned.cell h 0).trans rfl
theorem st_c1 {v : Value} {q : Own} {os : List Own} (h : Owned w0 w (StB g seed v q os ++ F)) : w.cell? ⟨g, 1, none⟩ = some (.int .i64 seed) := (Owned.cell h 1).trans rfl
theorem st_q {v : Value} {q : Own} {os : List Own} (h : Owned w0 w (StB g seed v q os ++ F)) : Owned w0 w (q ++ ([(g, .cells #[v, .int .i64 seed] 43 (0, 0))] ++ (os.flatten ++ F))) := by
  unfold StB at h
  rw [List.cons_append, List.append_assoc] at h
  exact Owned.comm (a := [_]) h
/-- the rest, without one ring's own -/
def StRest (g : Nat) (seed : Int) (v : Value) (q : Own) (os : List Own) (i : Nat) (F : Own) : Own := [(g, .cells #[v, .int .i64 seed] 43 (0, 0))] ++ (q ++ ((os.set i []).flatten ++ F))
theorem StB_app (g : Nat) (seed : Int) (v : Value) (q : Own) (os : List Own) (F : Own) : StB g seed v q os ++ F = [(g, Obj.cells #[v, .int .i64 seed] 43 (0, 0))] ++ (q ++ (os.flatten ++ F)) := by
  unfold StB
  rw [List.cons_append, List.append_assoc]
  rfl
theorem st_out_perm (g : Nat) (seed : Int) (v : Value) (q : Own) (os : List Own) (i : Nat) (F : Own) (hi : i < os.length) : (StB g seed v q os ++ F).Perm (os.getD i [] ++ StRest g seed v q os i F) := by
  rw [StB_app]
  unfold StRest
  have e := (flat_focus os i hi).append_right F
  rw [List.append_assoc] at e
  exact (List.Perm.append_left [_] ((List.Perm.append_left q e).trans (perm2 _ _ _))).trans (perm2 [_] _ _)
theorem st_in_perm (g : Nat) (seed : Int) (v : Value) (q : Own) (os : List Own) (i : Nat) (o F : Own) (hi : i < os.length) : (o ++ StRest g seed v q os i F).Perm (StB g seed v q (os.set i o) ++ F) := by
  rw [StB_app]
  unfold StRest
  have e := (flat_back os i o hi).append_right F
  rw [List.append_assoc] at e
  exact (perm2 o [_] _).trans (List.Perm.append_left [_] ((perm2 _ _ _).trans (List.Perm.append_left q e)))
theorem st_out {v : Value} {q : Own} {os : List Own} {i : Nat} (hi : i < os.length) (h : Owned w0 w (StB g seed v q os ++ F)) : Owned w0 w (os.getD i [] ++ StRest g seed v q os i F) := h.perm (st_out_perm _ _ _ _ _ _ _ hi)
theorem st_in {v : Value} {q : Own} {os : List Own} {i : Nat} {o : Own} (hi : i < os.length) (h : Owned w0 w (o ++ StRest g seed v q os i F)) : Owned w0 w (StB g seed v q (os.set i o) ++ F) := h.perm (st_in_perm _ _ _ _ _ _ _ _ hi)
theorem st_out_under {v : Value} {q q1 : Own} {os : List Own} {i : Nat} (hi : i < os.length) (h : Owned w0 w (q1 ++ (StB g seed v q os ++ F))) : Owned w0 w (q1 ++ (os.getD i [] ++ StRest g seed v q os i F)) := h.perm (List.Perm.append_left _ (st_out_perm _ _ _ _ _ _ _ hi))
theorem st_in_under {v : Value} {q q1 : Own} {os : List Own} {i : Nat} {o : Own} (hi : i < os.length) (h : Owned w0 w (q1 ++ (o ++ StRest g seed v q os i F))) : Owned w0 w (q1 ++ (StB g seed v q (os.set i o) ++ F)) := h.perm (List.Perm.append_left _ (st_in_perm _ _ _ _ _ _ _ _ hi))
theorem info_keeper : (Try.prog.info? 51).map (fun i => (i.zero, i.size, i.bytes)) = some (some .nilIface, 1, 16) := by kernel_rfl
end
end Go.Proofs.Ytjhoipbffadcjaa
