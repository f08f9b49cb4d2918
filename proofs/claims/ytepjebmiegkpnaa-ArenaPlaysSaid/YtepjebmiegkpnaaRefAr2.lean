/- The document's arena: Get, Set, Drop, New. -/
import Derived.Test.YtepjebmiegkpnaaRefAr1
import Derived.StillTailTactics
namespace Go.Proofs.Ytepjebmiegkpnaa
open Go.RowKit Go.Sep
theorem row_put {e : TypeId} {size n c b : Nat} {xs : List Value} {o X : Own} {w0 W : World} (h : Row e size (.slice (some ⟨b, 0, none⟩) n c) n xs o) (hO : Owned w0 W (o ++ X)) (t : Nat) (u : Value) :
    ∃ o', Row e size (.slice (some ⟨b, 0, none⟩) n c) n (xs.set t u) o' ∧ Owned w0 (W.setCell ⟨b, t, none⟩ u) (o' ++ X) := by
  obtain ⟨hl, hc⟩ := h
  rcases hc with ⟨h0, -, -⟩ | ⟨b2, cap, cur, h0, rfl, h1, h2, h3, h4⟩
  · injection h0 with h0 _ _
    cases h0
  · injection h0 with h0 _ h9
    injection h0 with h0
    injection h0 with h0 _
    subst h0
    subst h9
    refine ⟨[(b, .cells (cur.setIfInBounds t u) e (0, 0))], ⟨by simpa using hl, .inr ⟨b, _, _, rfl, rfl, h1, h2, by simpa using h3, ?_⟩⟩, Owned.set hO t u⟩
    rw [Array.toList_setIfInBounds, List.take_set, h4]
section
variable {g M : Nat} {S : Nodes6} {G : List Nat} {r F : Own} {w0 w : World} {hv lv gv : Value} {q1 q2 q3 : Own}
def RDid (w0 : World) (F : Own) (g M : Nat) (S : Nodes6) (G : List Nat) (v : Value) (e : Ending) (w' : World) : Prop :=
  ∃ r, e = .returned v ∧ RefAr g M S G r ∧ Owned w0 w' (r ++ F)
theorem nodV_set (S : Nodes6) {j : Nat} (o : Option (Int × Int)) (hj : j < S.length) : nodV (S.set j o) = ((nodV S).set ((j + 1) * 2) (.int .i64 (o.getD (0, 0)).1)).set ((j + 1) * 2 + 1) (.int .i64 (o.getD (0, 0)).2) := by
  unfold nodV
  rw [nodW_set S j o hj, show (j + 1) * 2 = j * 2 + 1 + 1 by omega, show j * 2 + 1 + 1 + 1 = (j * 2 + 1) + 1 + 1 by omega]
  simp only [List.set_cons_succ]
theorem heldV_set (S : Nodes6) (j : Nat) (o : Option (Int × Int)) : heldV (S.set j o) = (heldV S).set (j + 1) (.bool o.isSome) := by
  unfold heldV
  rw [List.set_cons_succ, List.map_set]
theorem heldV_same (S : Nodes6) {j : Nat} {o o' : Option (Int × Int)} (h : S[j]? = some o') (he : o'.isSome = o.isSome) : heldV (S.set j o) = heldV S := by
  unfold heldV
  rw [List.map_set]
  congr 1
  apply List.ext_getElem?
  intro t
  by_cases e : j = t
  · subst e
    rw [List.getElem?_set_self (by rw [List.length_map]; exact (List.getElem?_eq_some_iff.1 h).1), List.getElem?_map, h]
    simp [he]
  · rw [List.getElem?_set_ne e]
/-- a node is written -/
theorem ra_wnode {bl cl : Nat} (hl : Row 30 2 (.slice (some ⟨bl, 0, none⟩) (S.length + 1) cl) (S.length + 1) (nodV S) q2) {j : Nat} (hj : j < S.length) (o : Option (Int × Int)) (h : Owned w0 w (RaB g M hv (.slice (some ⟨bl, 0, none⟩) (S.length + 1) cl) gv q1 q2 q3 ++ F)) :
    ∃ q2', Row 30 2 (.slice (some ⟨bl, 0, none⟩) (S.length + 1) cl) ((S.set j o).length + 1) (nodV (S.set j o)) q2' ∧ Owned w0 ((w.setCell ⟨bl, (j + 1) * 2, none⟩ (.int .i64 (o.getD (0, 0)).1)).setCell ⟨bl, (j + 1) * 2 + 1, none⟩ (.int .i64 (o.getD (0, 0)).2)) (RaB g M hv (.slice (some ⟨bl, 0, none⟩) (S.length + 1) cl) gv q1 q2' q3 ++ F) := by
  have h3 := (ra_assoc h).perm (permQ2 _ q1 q2 q3 F)
  obtain ⟨o1, r1, k1⟩ := row_put hl h3 ((j + 1) * 2) (.int .i64 (o.getD (0, 0)).1)
  obtain ⟨o2, r2, k2⟩ := row_put r1 k1 ((j + 1) * 2 + 1) (.int .i64 (o.getD (0, 0)).2)
  rw [nodV_set S o hj, List.length_set]
  exact ⟨o2, r2, ra_back (k2.perm (permQ2 _ q1 o2 q3 F).symm)⟩
/-- a mark is written -/
theorem ra_wheld {bh ch : Nat} (hh : Row 4 1 (.slice (some ⟨bh, 0, none⟩) (S.length + 1) ch) (S.length + 1) (heldV S) q1) (j : Nat) (o : Option (Int × Int)) (h : Owned w0 w (RaB g M (.slice (some ⟨bh, 0, none⟩) (S.length + 1) ch) lv gv q1 q2 q3 ++ F)) :
    ∃ q1', Row 4 1 (.slice (some ⟨bh, 0, none⟩) (S.length + 1) ch) ((S.set j o).length + 1) (heldV (S.set j o)) q1' ∧ Owned w0 (w.setCell ⟨bh, j + 1, none⟩ (.bool o.isSome)) (RaB g M (.slice (some ⟨bh, 0, none⟩) (S.length + 1) ch) lv gv q1' q2 q3 ++ F) := by
  have h3 := (ra_assoc h).perm (permQ1 _ q1 q2 q3 F)
  obtain ⟨o1, r1, k1⟩ := row_put hh h3 (j + 1) (.bool o.isSome)
  rw [heldV_set, List.length_set]
  exact ⟨o1, r1, ra_back (k1.perm (permQ1 _ o1 q2 q3 F).symm)⟩
theorem look_some_at {id k v : Int} (hl : look S id = some (k, v)) : ∃ j : Nat, id = ((j + 1 : Nat) : Int) ∧ j < S.length ∧ S[j]? = some (some (k, v)) ∧ id.toNat - 1 = j ∧ id.toNat = j + 1 := by
  unfold look at hl
  split at hl
  · rename_i h1
    refine ⟨id.toNat - 1, by omega, ?_, ?_, rfl, by omega⟩
    · by_cases h : id.toNat - 1 < S.length
      · exact h
      · rw [List.getElem?_eq_none (by omega)] at hl
        cases hl
    · cases h : S[id.toNat - 1]? with
      | none => rw [h] at hl; cases hl
      | some o => rw [h] at hl; rw [show o = some (k, v) from hl]
  · cases hl
theorem ra_rowb {e : TypeId} {size n c b : Nat} {xs : List Value} {o X : Own} {W : World} (h : Row e size (.slice (some ⟨b, 0, none⟩) n c) n xs o) (hX : Owned w0 W (o ++ X)) : b < W.heap.size ∧ n ≤ c := by
  rcases h.2 with ⟨h0, -, -⟩ | ⟨b2, cap, cur, h0, rfl, h1, -⟩
  · injection h0 with h0 _ _
    cases h0
  · injection h0 with h0 _ h2
    injection h0 with h0
    injection h0 with h0 _
    subst h0
    subst h2
    exact ⟨Owned.lt hX, h1⟩
set_option maxHeartbeats 1600000 in
theorem ra_get {id k v : Int} (hl : look S id = some (k, v)) (hr : RefAr g M S G r) (hn : S.length ≤ 100000) (h : Owned w0 w (r ++ F)) :
    Calls Try.prog 20 #[.pointer (some ⟨g, 0, none⟩), .int .i64 id] w (Said w0 (r ++ F) (.tuple #[.agg #[.int .i64 k, .int .i64 v], .int .i64 0])) := by
  have hO := h.alloc_ (.cells #[.int .i64 0, .int .i64 0] 30)
  have CT := ra_there id hr hn hO
  rw [hl] at CT
  have HK := Lib.hid (h.alloc_ (.cells #[.int .i64 k, .int .i64 v] 30))
  obtain ⟨j, rfl, hj, hs, -, -⟩ := look_some_at hl
  obtain ⟨hv, lv, gv, q1, q2, q3, rfl, hI⟩ := hr
  obtain ⟨bh, ch, bl, cl, gA, gc, rfl, rfl, rfl, hc⟩ := ra_reads (w0 := w0) (g := g) (M := M) hI
  obtain ⟨c0, c1, c2, c3, hcell⟩ := hc _ _ hO
  obtain ⟨-, d1, d2⟩ := hcell j _ hs
  simp only [Option.getD_some] at d1 d2
  have e1 := (ra_rowb hI.l ((ra_assoc h).perm (permQ2 _ q1 q2 q3 F))).1
  clear hc hcell hI h hs hl hO
  go_enter Try.func20, Try.ntmps20
  go_wp2_with fail
  go_at_call 24
  refine (CT).mono ?_
  rintro e w2 ⟨rfl, rfl⟩
  go_wp2_with fail
  refine bodyPost_ret (v := .tuple #[.agg #[.int .i64 k, .int .i64 v], .int .i64 0]) (by simp [results, Try.results20, go_sem]) rfl ⟨rfl, ?_⟩
  exact HK.out
set_option maxHeartbeats 1600000 in
theorem ra_get_none {id : Int} (hl : look S id = none) (hr : RefAr g M S G r) (hn : S.length ≤ 100000) (h : Owned w0 w (r ++ F)) :
    Calls Try.prog 20 #[.pointer (some ⟨g, 0, none⟩), .int .i64 id] w (Said w0 (r ++ F) (.tuple #[.agg #[.int .i64 0, .int .i64 0], .int .i64 3])) := by
  have CT := ra_there id hr hn (h.alloc_ (.cells #[.int .i64 0, .int .i64 0] 30))
  rw [hl] at CT
  have HK := Lib.hid (h.alloc_ (.cells #[.int .i64 0, .int .i64 0] 30))
  clear hr hl
  go_enter Try.func20, Try.ntmps20
  go_wp2_with fail
  go_at_call 24
  refine (CT).mono ?_
  rintro e w2 ⟨rfl, rfl⟩
  go_wp2_with fail
  refine bodyPost_ret (v := .tuple #[.agg #[.int .i64 0, .int .i64 0], .int .i64 3]) (by simp [results, Try.results20, go_sem]) rfl ⟨rfl, ?_⟩
  exact HK.out
set_option maxHeartbeats 1600000 in
theorem ra_set_none {id : Int} (k' v' : Int) (hl : look S id = none) (hr : RefAr g M S G r) (hn : S.length ≤ 100000) (h : Owned w0 w (r ++ F)) :
    Calls Try.prog 19 #[.pointer (some ⟨g, 0, none⟩), .int .i64 id, .agg #[.int .i64 k', .int .i64 v']] w (RDid w0 F g M S G (.int .i64 3)) := by
  have CT := ra_there id hr hn (h.alloc_ (.cells #[.int .i64 k', .int .i64 v'] 30))
  rw [hl] at CT
  have HK := Lib.hid (And.intro hr (h.alloc_ (.cells #[.int .i64 k', .int .i64 v'] 30)))
  clear hr hl h
  go_enter Try.func19, Try.ntmps19
  go_wp2_with fail
  go_at_call 24
  refine (CT).mono ?_
  rintro e w2 ⟨rfl, rfl⟩
  go_wp2_with fail
  go_ret
  exact ⟨_, rfl, HK.out.1, HK.out.2⟩
theorem ra_drop_none {id : Int} (hl : look S id = none) (hr : RefAr g M S G r) (hn : S.length ≤ 100000) (h : Owned w0 w (r ++ F)) :
    Calls Try.prog 18 #[.pointer (some ⟨g, 0, none⟩), .int .i64 id] w (RDid w0 F g M S G (.int .i64 3)) := by
  have CT := ra_there id hr hn h
  rw [hl] at CT
  have HK := Lib.hid (And.intro hr h)
  clear hr hl h
  go_enter Try.func18, Try.ntmps18
  go_wp2_with fail
  go_at_call 24
  refine (CT).mono ?_
  rintro e w2 ⟨rfl, rfl⟩
  go_wp2_with fail
  go_ret
  exact ⟨_, rfl, HK.out.1, HK.out.2⟩
set_option maxHeartbeats 3200000 in
theorem ra_set {id k v : Int} (k' v' : Int) (hl : look S id = some (k, v)) (hr : RefAr g M S G r) (hn : S.length ≤ 100000) (h : Owned w0 w (r ++ F)) :
    Calls Try.prog 19 #[.pointer (some ⟨g, 0, none⟩), .int .i64 id, .agg #[.int .i64 k', .int .i64 v']] w (RDid w0 F g M (S.set (id.toNat - 1) (some (k', v'))) G (.int .i64 0)) := by
  have hO := h.alloc_ (.cells #[.int .i64 k', .int .i64 v'] 30)
  have CT := ra_there id hr hn hO
  have f0 := Owned.cell (h.alloc (.cells #[.int .i64 k', .int .i64 v'] 30)) 0
  have f1 := Owned.cell (h.alloc (.cells #[.int .i64 k', .int .i64 v'] 30)) 1
  rw [show (#[Value.int .i64 k', .int .i64 v'] : Array Value)[0]? = some (.int .i64 k') from rfl] at f0
  rw [show (#[Value.int .i64 k', .int .i64 v'] : Array Value)[1]? = some (.int .i64 v') from rfl] at f1
  rw [hl] at CT
  obtain ⟨j, rfl, hj, hs, hj2, -⟩ := look_some_at hl
  rw [hj2]
  obtain ⟨hv, lv, gv, q1, q2, q3, rfl, hI⟩ := hr
  obtain ⟨bh, ch, bl, cl, gA, gc, rfl, rfl, rfl, hc⟩ := ra_reads (w0 := w0) (g := g) (M := M) hI
  obtain ⟨c0, c1, c2, c3, hcell⟩ := hc _ _ hO
  obtain ⟨-, d1, d2⟩ := hcell j _ hs
  have d3 := (row_cells6 hI.l ((ra_assoc hO).perm (permQ2 _ q1 q2 q3 F)) ((j + 1) * 2) _ (by rw [show (j + 1) * 2 = j * 2 + 1 + 1 by omega]; exact (nodW_get S j _ hs).1)).2
  have d4 := (row_cells6 hI.l ((ra_assoc hO).perm (permQ2 _ q1 q2 q3 F)) ((j + 1) * 2 + 1) _ (by rw [show (j + 1) * 2 + 1 = j * 2 + 1 + 1 + 1 by omega]; exact (nodW_get S j _ hs).2)).2
  have e1 := (ra_rowb hI.l ((ra_assoc h).perm (permQ2 _ q1 q2 q3 F))).1
  obtain ⟨q2', hl2, hO2⟩ := ra_wnode hI.l hj (some (k', v')) hO
  have hI2 : RaIn (.slice (some ⟨bh, 0, none⟩) (S.length + 1) ch) (.slice (some ⟨bl, 0, none⟩) (S.length + 1) cl) (.slice gA G.length gc) q1 q2' q3 (S.set j (some (k', v'))) G :=
    ⟨by rw [heldV_same S (o := some (k', v')) hs rfl, List.length_set]; exact hI.h, hl2, hI.g⟩
  simp only [Option.getD_some] at hO2 d1 d2
  have HK := Lib.hid (And.intro hI2 hO2)
  clear hc hcell hI hl hI2 hO2 hl2 hs hO h
  generalize hn2 : S.length = n at *
  clear hn2
  have k1 : (0 : Int) ≤ (j : Int) + 1 := by omega
  have k2 : (j : Int) + 1 < (n : Int) + 1 := by omega
  go_enter Try.func19, Try.ntmps19
  go_wp2_with fail
  go_at_call 24
  refine (CT).mono ?_
  rintro e w2 ⟨rfl, rfl⟩
  go_wp2_with fail
  generalize w.alloc (.cells #[.int .i64 k', .int .i64 v'] 30) = w1 at *
  generalize w.heap.size = z at *
  go_still_tail 7, (by kernel_rfl)
  all_goals go_wp2_with fail
  all_goals go_ret
  all_goals exact ⟨_, rfl, ⟨_, _, _, _, _, _, rfl, HK.out.1⟩, HK.out.2.drew⟩
end
end Go.Proofs.Ytepjebmiegkpnaa
