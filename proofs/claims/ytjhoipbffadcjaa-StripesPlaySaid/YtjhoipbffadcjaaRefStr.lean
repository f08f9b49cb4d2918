/- The document's stripes (pantryref13) in memory. -/
import Derived.Test.YtjhoipbffadcjaaStripes8
import Derived.Test.YtjhoipbffadcjaaRefRing
import Derived.Test.YtjhoipbffadcjaaMixR
namespace Go.Proofs.Ytjhoipbffadcjaa
open Go.RowKit Go.Sep
def rptr (g : Nat) : Value := .pointer (some ⟨g, 0, none⟩)
theorem rptr_one (g : Nat) : (rptr g).oneCell' = true := rfl
def RsB (g : Nat) (seed : Int) (v : Value) (q : Own) (os : List Own) : Own := (g, .cells #[v, .int .i64 seed] 57 (0, 0)) :: (q ++ os.flatten)
structure RsIn (n : Nat) (v : Value) (q : Own) (gs : List Nat) (m : Nat) (L : Nat → List Int) (G : Nat → Nat) (os : List Own) : Prop where
  row : Row 58 1 v m (gs.map rptr) q
  gl : gs.length = m
  ol : os.length = m
  m1 : 1 ≤ m
  m2 : m ≤ 64
  rings : ∀ i, i < m → RefRing (gs.getD i 0) n (L i) (G i) (os.getD i [])
/-- stripes in memory: what each of m rings holds, and how many it lost -/
def RsAt (g : Nat) (seed : Int) (n m : Nat) (L : Nat → List Int) (G : Nat → Nat) (r : Own) : Prop := ∃ v q gs os, r = RsB g seed v q os ∧ RsIn n v q gs m L G os
theorem RsIn.congr {n : Nat} {v : Value} {q : Own} {gs : List Nat} {m : Nat} {L L' : Nat → List Int} {G G' : Nat → Nat} {os : List Own} (h : RsIn n v q gs m L G os) (hL : ∀ i, i < m → L' i = L i) (hG : ∀ i, i < m → G' i = G i) : RsIn n v q gs m L' G' os :=
  ⟨h.row, h.gl, h.ol, h.m1, h.m2, fun i hi => by rw [hL i hi, hG i hi]; exact h.rings i hi⟩
theorem RsIn.set {n : Nat} {v : Value} {q : Own} {gs : List Nat} {m : Nat} {L : Nat → List Int} {G : Nat → Nat} {os : List Own} (h : RsIn n v q gs m L G os) {i : Nat} (hi : i < m) {K : List Int} {lost : Nat} {o : Own} (hr : RefRing (gs.getD i 0) n K lost o) :
    RsIn n v q gs m (updF L i K) (updF G i lost) (os.set i o) := by
  refine ⟨h.row, h.gl, by rw [List.length_set]; exact h.ol, h.m1, h.m2, fun j hj => ?_⟩
  rw [getD_setO]
  by_cases e : i = j
  · subst e
    rw [updF_self, updF_self, if_pos ⟨rfl, by rw [h.ol]; exact hi⟩]
    exact hr
  · rw [updF_ne _ _ (Ne.symm e), updF_ne _ _ (Ne.symm e), if_neg (fun hh => e hh.1)]
    exact h.rings j hj
section
variable {g n m : Nat} {seed : Int} {L : Nat → List Int} {G : Nat → Nat} {w0 w : World} {F r : Own}
/-- what can be read of the rings' row -/
theorem rrow_reads {v : Value} {m : Nat} {gs : List Nat} {q : Own} (hr : Row 58 1 v m (gs.map rptr) q) : ∃ A c, v = .slice A m c ∧ (0 < m → ∃ b, A = some ⟨b, 0, none⟩ ∧ ∀ W G, Owned w0 W (q ++ G) → ∀ i, i < m → W.cell? ⟨b, i, none⟩ = some (rptr (gs.getD i 0))) := by
  obtain ⟨hl, hc⟩ := hr
  rcases hc with ⟨rfl, rfl, rfl⟩ | ⟨b, cap, cur, rfl, rfl, h1, h2, h3, h4⟩
  · exact ⟨none, 0, rfl, fun h => absurd h (by omega)⟩
  · refine ⟨some ⟨b, 0, none⟩, cap, rfl, fun _ => ⟨b, rfl, fun W G hO i hi => ?_⟩⟩
    refine (Owned.cell hO i).trans ?_
    have hlen : gs.length = m := by simpa using hl
    have h5 : cur[i]? = (cur.toList.take (m * 1))[i]? := by rw [List.getElem?_take, if_pos (by omega)]; simp
    rw [h5, h4]
    simp [List.getD, hlen, hi]
theorem rst_c0 {v : Value} {q : Own} {os : List Own} (h : Owned w0 w (RsB g seed v q os ++ F)) : w.cell? ⟨g, 0, none⟩ = some v := (Owned.cell h 0).trans rfl
theorem rst_c1 {v : Value} {q : Own} {os : List Own} (h : Owned w0 w (RsB g seed v q os ++ F)) : w.cell? ⟨g, 1, none⟩ = some (.int .i64 seed) := (Owned.cell h 1).trans rfl
theorem rst_q {v : Value} {q : Own} {os : List Own} (h : Owned w0 w (RsB g seed v q os ++ F)) : Owned w0 w (q ++ ([(g, .cells #[v, .int .i64 seed] 57 (0, 0))] ++ (os.flatten ++ F))) := by
  unfold RsB at h
  rw [List.cons_append, List.append_assoc] at h
  exact Owned.comm (a := [_]) h
/-- the rest, without one ring's own -/
def RsRest (g : Nat) (seed : Int) (v : Value) (q : Own) (os : List Own) (i : Nat) (F : Own) : Own := [(g, .cells #[v, .int .i64 seed] 57 (0, 0))] ++ (q ++ ((os.set i []).flatten ++ F))
theorem RsB_app (g : Nat) (seed : Int) (v : Value) (q : Own) (os : List Own) (F : Own) : RsB g seed v q os ++ F = [(g, Obj.cells #[v, .int .i64 seed] 57 (0, 0))] ++ (q ++ (os.flatten ++ F)) := by
  unfold RsB
  rw [List.cons_append, List.append_assoc]
  rfl
theorem rst_out_perm (g : Nat) (seed : Int) (v : Value) (q : Own) (os : List Own) (i : Nat) (F : Own) (hi : i < os.length) : (RsB g seed v q os ++ F).Perm (os.getD i [] ++ RsRest g seed v q os i F) := by
  rw [RsB_app]
  unfold RsRest
  have e := (flat_focus os i hi).append_right F
  rw [List.append_assoc] at e
  exact (List.Perm.append_left [_] ((List.Perm.append_left q e).trans (perm2 _ _ _))).trans (perm2 [_] _ _)
theorem rst_in_perm (g : Nat) (seed : Int) (v : Value) (q : Own) (os : List Own) (i : Nat) (o F : Own) (hi : i < os.length) : (o ++ RsRest g seed v q os i F).Perm (RsB g seed v q (os.set i o) ++ F) := by
  rw [RsB_app]
  unfold RsRest
  have e := (flat_back os i o hi).append_right F
  rw [List.append_assoc] at e
  exact (perm2 o [_] _).trans (List.Perm.append_left [_] ((perm2 _ _ _).trans (List.Perm.append_left q e)))
theorem rst_out {v : Value} {q : Own} {os : List Own} {i : Nat} (hi : i < os.length) (h : Owned w0 w (RsB g seed v q os ++ F)) : Owned w0 w (os.getD i [] ++ RsRest g seed v q os i F) := h.perm (rst_out_perm _ _ _ _ _ _ _ hi)
theorem rst_in {v : Value} {q : Own} {os : List Own} {i : Nat} {o : Own} (hi : i < os.length) (h : Owned w0 w (o ++ RsRest g seed v q os i F)) : Owned w0 w (RsB g seed v q (os.set i o) ++ F) := h.perm (rst_in_perm _ _ _ _ _ _ _ _ hi)
theorem rst_out_under {v : Value} {q q1 : Own} {os : List Own} {i : Nat} (hi : i < os.length) (h : Owned w0 w (q1 ++ (RsB g seed v q os ++ F))) : Owned w0 w (q1 ++ (os.getD i [] ++ RsRest g seed v q os i F)) := h.perm (List.Perm.append_left _ (rst_out_perm _ _ _ _ _ _ _ hi))
theorem rst_in_under {v : Value} {q q1 : Own} {os : List Own} {i : Nat} {o : Own} (hi : i < os.length) (h : Owned w0 w (q1 ++ (o ++ RsRest g seed v q os i F))) : Owned w0 w (q1 ++ (RsB g seed v q (os.set i o) ++ F)) := h.perm (List.Perm.append_left _ (rst_in_perm _ _ _ _ _ _ _ _ hi))
theorem info_rp : (Try.prog.info? 58).map (fun i => (i.zero, i.size, i.bytes)) = some (some (.pointer none), 1, 8) := by kernel_rfl
end
end Go.Proofs.Ytjhoipbffadcjaa
