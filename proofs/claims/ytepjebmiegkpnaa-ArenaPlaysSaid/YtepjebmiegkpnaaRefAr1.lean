/- The document's arena (pantryref06) in memory: what only reads. -/
import Derived.Test.YtepjebmiegkpnaaArena5
import Derived.Test.YtepjebmiegkpnaaReads
import Derived.Test.YtepjebmiegkpnaaRegionPop
namespace Go.Proofs.Ytepjebmiegkpnaa
open Go.RowKit Go.Sep
abbrev Nodes6 := List (Option (Int × Int))
def heldV (S : Nodes6) : List Value := .bool false :: S.map (fun o => .bool o.isSome)
def nodW : Nodes6 → List Value
  | [] => []
  | o :: S => .int .i64 (o.getD (0, 0)).1 :: .int .i64 (o.getD (0, 0)).2 :: nodW S
def nodV (S : Nodes6) : List Value := .int .i64 0 :: .int .i64 0 :: nodW S
def goneV (G : List Nat) : List Value := ints (G.reverse.map (fun x : Nat => (x : Int)))
theorem nodW_len : ∀ S, (nodW S).length = S.length * 2
  | [] => rfl
  | o :: S => by rw [nodW, List.length_cons, List.length_cons, nodW_len S, List.length_cons]; omega
theorem nodW_get : ∀ (S : Nodes6) (j : Nat) (o : Option (Int × Int)), S[j]? = some o → (nodW S)[j * 2]? = some (.int .i64 (o.getD (0, 0)).1) ∧ (nodW S)[j * 2 + 1]? = some (.int .i64 (o.getD (0, 0)).2)
  | [], j, o, h => by simp at h
  | p :: S, 0, o, h => by simp at h; subst h; exact ⟨rfl, rfl⟩
  | p :: S, j + 1, o, h => by
    have := nodW_get S j o (by simpa using h)
    rw [show (j + 1) * 2 = j * 2 + 1 + 1 by omega]
    exact ⟨this.1, this.2⟩
theorem nodW_append : ∀ a b, nodW (a ++ b) = nodW a ++ nodW b
  | [], _ => rfl
  | p :: a, b => by rw [List.cons_append, nodW, nodW, nodW_append a b]; rfl
theorem nodW_set : ∀ (S : Nodes6) (j : Nat) (o : Option (Int × Int)), j < S.length → nodW (S.set j o) = ((nodW S).set (j * 2) (.int .i64 (o.getD (0, 0)).1)).set (j * 2 + 1) (.int .i64 (o.getD (0, 0)).2)
  | [], j, o, h => by simp at h
  | p :: S, 0, o, h => rfl
  | p :: S, j + 1, o, h => by
    rw [List.set_cons_succ, nodW, nodW, nodW_set S j o (by simpa using h), show (j + 1) * 2 = j * 2 + 1 + 1 by omega]
    rfl
def RaB (g M : Nat) (hv lv gv : Value) (q1 q2 q3 : Own) : Own := [(g, .cells #[.int .i64 (M : Int), hv, lv, gv] 48 (0, 0))] ++ (q1 ++ (q2 ++ q3))
structure RaIn (hv lv gv : Value) (q1 q2 q3 : Own) (S : Nodes6) (G : List Nat) : Prop where
  h : Row 4 1 hv (S.length + 1) (heldV S) q1
  l : Row 30 2 lv (S.length + 1) (nodV S) q2
  g : Row 3 1 gv G.length (goneV G) q3
def RefAr (g M : Nat) (S : Nodes6) (G : List Nat) (r : Own) : Prop := ∃ hv lv gv q1 q2 q3, r = RaB g M hv lv gv q1 q2 q3 ∧ RaIn hv lv gv q1 q2 q3 S G
theorem permQ1 (g a b c N : Go.Sep.Own) : (g ++ (a ++ (b ++ (c ++ (N))))).Perm (a ++ (g ++ (b ++ (c ++ (N))))) :=
  (perm2 g a _).trans (List.Perm.append_left a (List.Perm.refl _))
theorem permQ2 (g a b c N : Go.Sep.Own) : (g ++ (a ++ (b ++ (c ++ (N))))).Perm (b ++ (g ++ (a ++ (c ++ (N))))) :=
  (perm3 g a b _).trans (List.Perm.append_left b (List.Perm.refl _))
theorem permQ3 (g a b c N : Go.Sep.Own) : (g ++ (a ++ (b ++ (c ++ (N))))).Perm (c ++ (g ++ (a ++ (b ++ (N))))) :=
  (perm4 g a b c _).trans (List.Perm.append_left c (List.Perm.refl _))
section
variable {g M : Nat} {S : Nodes6} {G : List Nat} {r F : Own} {w0 w : World} {hv lv gv : Value} {q1 q2 q3 : Own}
theorem row_cells6 {e : TypeId} {size n c b : Nat} {xs : List Value} {o X : Own} {w0 W : World} (h : Row e size (.slice (some ⟨b, 0, none⟩) n c) n xs o) (hO : Owned w0 W (o ++ X)) : ∀ (t : Nat) (u : Value), xs[t]? = some u → W.cell? ⟨b, t, none⟩ = some u ∧ W.frozen? ⟨b, t, none⟩ = false := by
  intro t u ht
  obtain ⟨hl, hc⟩ := h
  rcases hc with ⟨h0, -, -⟩ | ⟨b2, cap, cur, h0, rfl, h1, h2, h3, h4⟩
  · injection h0 with h0 _ _
    cases h0
  · injection h0 with h0 _ _
    injection h0 with h0
    injection h0 with h0 _
    subst h0
    refine ⟨(Owned.cell hO t).trans ?_, Owned.frozen hO t⟩
    rw [← h4, List.getElem?_take] at ht
    split at ht
    · simpa using ht
    · cases ht
theorem row_some {e : TypeId} {size n : Nat} {v : Value} {xs : List Value} {o : Own} (h : Row e size v n xs o) (hn : 0 < n) : ∃ b c, v = .slice (some ⟨b, 0, none⟩) n c ∧ n ≤ c := by
  rcases h.2 with ⟨-, h0, -⟩ | ⟨b2, cap, cur, h0, -, h1, -⟩
  · omega
  · exact ⟨b2, cap, h0, h1⟩
theorem ra_assoc (h : Owned w0 w (RaB g M hv lv gv q1 q2 q3 ++ F)) : Owned w0 w ([(g, .cells #[.int .i64 (M : Int), hv, lv, gv] 48 (0, 0))] ++ (q1 ++ (q2 ++ (q3 ++ F)))) := by
  unfold RaB at h
  simp only [List.append_assoc] at h
  exact h
theorem ra_back (h : Owned w0 w ([(g, .cells #[.int .i64 (M : Int), hv, lv, gv] 48 (0, 0))] ++ (q1 ++ (q2 ++ (q3 ++ F))))) : Owned w0 w (RaB g M hv lv gv q1 q2 q3 ++ F) := by
  unfold RaB
  simp only [List.append_assoc]
  exact h
/-- the four fields, and what the rows hold -/
theorem ra_reads (hI : RaIn hv lv gv q1 q2 q3 S G) : ∃ bh ch bl cl gA gc, hv = .slice (some ⟨bh, 0, none⟩) (S.length + 1) ch ∧ lv = .slice (some ⟨bl, 0, none⟩) (S.length + 1) cl ∧ gv = .slice gA G.length gc ∧
    ∀ W F, Owned w0 W (RaB g M hv lv gv q1 q2 q3 ++ F) → W.cell? ⟨g, 0, none⟩ = some (.int .i64 (M : Int)) ∧ W.cell? ⟨g, 1, none⟩ = some hv ∧ W.cell? ⟨g, 2, none⟩ = some lv ∧ W.cell? ⟨g, 3, none⟩ = some gv ∧
      ∀ j o, S[j]? = some o → W.cell? ⟨bh, j + 1, none⟩ = some (.bool o.isSome) ∧ W.cell? ⟨bl, (j + 1) * 2, none⟩ = some (.int .i64 (o.getD (0, 0)).1) ∧ W.cell? ⟨bl, (j + 1) * 2 + 1, none⟩ = some (.int .i64 (o.getD (0, 0)).2) := by
  obtain ⟨bh, ch, rfl, -⟩ := row_some hI.h (by omega)
  obtain ⟨bl, cl, rfl, -⟩ := row_some hI.l (by omega)
  obtain ⟨gA, gc, rfl⟩ := hI.g.slice
  refine ⟨bh, ch, bl, cl, gA, gc, rfl, rfl, rfl, fun W F hO => ?_⟩
  have h1 := ra_assoc hO
  refine ⟨(Owned.cell h1 0).trans rfl, (Owned.cell h1 1).trans rfl, (Owned.cell h1 2).trans rfl, (Owned.cell h1 3).trans rfl, fun j o hj => ?_⟩
  have h2 := h1.perm (permQ1 _ q1 q2 q3 F)
  have h3 := h1.perm (permQ2 _ q1 q2 q3 F)
  have e1 : (heldV S)[j + 1]? = some (.bool o.isSome) := by
    show (S.map (fun o => Value.bool o.isSome))[j]? = _
    rw [List.getElem?_map, hj]
    rfl
  have e2 : (nodV S)[(j + 1) * 2]? = some (.int .i64 (o.getD (0, 0)).1) := by
    rw [show (j + 1) * 2 = j * 2 + 1 + 1 by omega]
    exact (nodW_get S j o hj).1
  have e3 : (nodV S)[(j + 1) * 2 + 1]? = some (.int .i64 (o.getD (0, 0)).2) := by
    rw [show (j + 1) * 2 + 1 = j * 2 + 1 + 1 + 1 by omega]
    exact (nodW_get S j o hj).2
  exact ⟨(row_cells6 hI.h h2 _ _ e1).1, (row_cells6 hI.l h3 _ _ e2).1, (row_cells6 hI.l h3 _ _ e3).1⟩
set_option maxHeartbeats 1600000 in
theorem ra_len (hr : RefAr g M S G r) (hn : S.length ≤ 100000) (hG : G.length ≤ 100000) (h : Owned w0 w (r ++ F)) :
    Calls Try.prog 21 #[.pointer (some ⟨g, 0, none⟩)] w fun e w' => e = .returned (.int .i64 ((S.length : Int) - (G.length : Int))) ∧ w' = w.drew := by
  obtain ⟨hv, lv, gv, q1, q2, q3, rfl, hI⟩ := hr
  obtain ⟨bh, ch, bl, cl, gA, gc, rfl, rfl, rfl, hc⟩ := ra_reads (w0 := w0) (g := g) (M := M) hI
  obtain ⟨c0, c1, c2, c3, -⟩ := hc _ _ h
  obtain ⟨n, hn2⟩ : ∃ n, S.length = n := ⟨_, rfl⟩
  obtain ⟨k, hk⟩ : ∃ k, G.length = k := ⟨_, rfl⟩
  rw [hn2] at c1 c2 hn ⊢
  rw [hk] at c3 hG ⊢
  have i1 : IntKind.i64.wrap (((n + 1 : Nat) : Int) - 1) = (n : Int) := by rw [IntKind.wrap_i64]; omega
  have i1b : IntKind.i64.wrap ((n : Int) + 1 - 1) = (n : Int) := by rw [IntKind.wrap_i64]; omega
  have i2 : IntKind.i64.wrap ((n : Int) - (k : Int)) = (n : Int) - (k : Int) := by rw [IntKind.wrap_i64]; omega
  have i3 : IntKind.i64.wrap (n : Int) = (n : Int) := by rw [IntKind.wrap_i64]; omega
  clear hc hI h hn2 hk
  go_enter Try.func21, Try.ntmps21
  go_wp2_with fail
  go_region_with (fail)
  all_goals go_wp2_with fail
  all_goals go_ret
  all_goals exact ⟨rfl, rfl⟩
set_option maxHeartbeats 1600000 in
theorem ra_there (id : Int) (hr : RefAr g M S G r) (hn : S.length ≤ 100000) (h : Owned w0 w (r ++ F)) :
    Calls Try.prog 24 #[.pointer (some ⟨g, 0, none⟩), .int .i64 id] w fun e w' => e = .returned (.bool (look S id).isSome) ∧ w' = w := by
  obtain ⟨hv, lv, gv, q1, q2, q3, rfl, hI⟩ := hr
  obtain ⟨bh, ch, bl, cl, gA, gc, rfl, rfl, rfl, hc⟩ := ra_reads (w0 := w0) (g := g) (M := M) hI
  obtain ⟨c0, c1, c2, c3, hcell⟩ := hc _ _ h
  obtain ⟨n, hn2⟩ : ∃ n, S.length = n := ⟨_, rfl⟩
  rw [hn2] at c1 c2 hn
  by_cases h1 : 1 ≤ id
  · by_cases h2 : id < (n : Int) + 1
    · obtain ⟨j, rfl⟩ : ∃ j : Nat, id = ((j + 1 : Nat) : Int) := ⟨(id - 1).toNat, by omega⟩
      have hj : j < S.length := by omega
      obtain ⟨o, ho⟩ : ∃ o, S[j]? = some o := ⟨_, List.getElem?_eq_getElem hj⟩
      obtain ⟨c4, -, -⟩ := hcell j o ho
      have hl : (look S ((j + 1 : Nat) : Int)).isSome = o.isSome := by
        unfold look
        rw [if_pos (by omega), show (((j + 1 : Nat) : Int)).toNat - 1 = j by omega, ho]
        rfl
      rw [hl]
      clear hc hcell hI h hn2 ho hj hl c3
      go_enter Try.func24, Try.ntmps24
      go_wp2_with fail
      all_goals go_ret
      all_goals exact ⟨rfl, rfl⟩
    · have hl : look S id = none := by
        unfold look
        rw [if_pos h1, List.getElem?_eq_none (by omega)]
        rfl
      rw [hl]
      clear hc hcell hI h hn2 hl c3
      go_enter Try.func24, Try.ntmps24
      go_wp2_with fail
      all_goals go_ret
      all_goals exact ⟨rfl, rfl⟩
  · have hl : look S id = none := by
      unfold look
      rw [if_neg h1]
    rw [hl]
    clear hc hcell hI h hn2 hl c3
    go_enter Try.func24, Try.ntmps24
    go_wp2_with fail
    all_goals go_ret
    all_goals exact ⟨rfl, rfl⟩
end
end Go.Proofs.Ytepjebmiegkpnaa
