/- The document's arena: Drop, New. -/
import Derived.Test.YtepjebmiegkpnaaRefAr2
namespace Go.Proofs.Ytepjebmiegkpnaa
open Go.RowKit Go.Sep
theorem info_int6 : (Try.prog.info? 3).map (fun i => (i.zero, i.size, i.bytes)) = some (some (.int .i64 0), 1, 8) := by kernel_rfl
theorem goneV_cons (x : Nat) (G : List Nat) : goneV (x :: G) = goneV G ++ [.int .i64 (x : Int)] := by
  unfold goneV
  rw [List.reverse_cons, List.map_append]
  unfold ints
  rw [List.map_append]
  rfl
section
variable {g M : Nat} {S : Nodes6} {G : List Nat} {r F : Own} {w0 w : World} {hv lv gv : Value} {q1 q2 q3 : Own}
theorem ra_ne {bh ch bl cl : Nat} (hh : Row 4 1 (.slice (some ⟨bh, 0, none⟩) (S.length + 1) ch) (S.length + 1) (heldV S) q1) (hl : Row 30 2 (.slice (some ⟨bl, 0, none⟩) (S.length + 1) cl) (S.length + 1) (nodV S) q2)
    (h : Owned w0 w (RaB g M (.slice (some ⟨bh, 0, none⟩) (S.length + 1) ch) (.slice (some ⟨bl, 0, none⟩) (S.length + 1) cl) gv q1 q2 q3 ++ F)) : g ≠ bh ∧ g ≠ bl ∧ bh ≠ bl := by
  obtain ⟨o1, rfl⟩ := hh.own (k := bh) rfl
  obtain ⟨o2, rfl⟩ := hl.own (k := bl) rfl
  have h1 := ra_assoc h
  have hn := h1.nodup
  simp only [List.cons_append, List.nil_append, List.map_cons, List.nodup_cons, List.mem_cons, not_or] at hn
  exact ⟨hn.1.1, hn.1.2.1, hn.2.1.1⟩
theorem permQ4 (g a b c N : Go.Sep.Own) : (g ++ (a ++ (b ++ (c ++ (N))))).Perm (c ++ (g ++ (a ++ (b ++ (N))))) :=
  (perm4 g a b c _).trans (List.Perm.append_left c (List.Perm.refl _))
set_option maxHeartbeats 3200000 in
theorem ra_drop {id k v : Int} (hl : look S id = some (k, v)) (hr : RefAr g M S G r) (hn : S.length ≤ 100000) (hG : G.length ≤ 100000) (h : Owned w0 w (r ++ F)) :
    Calls Try.prog 18 #[.pointer (some ⟨g, 0, none⟩), .int .i64 id] w (RDid w0 F g M (S.set (id.toNat - 1) none) (id.toNat :: G) (.int .i64 0)) := by
  have CT := ra_there id hr hn h
  rw [hl] at CT
  obtain ⟨j, rfl, hj, hs, hj2, hj3⟩ := look_some_at hl
  rw [hj2, hj3]
  obtain ⟨hv, lv, gv, q1, q2, q3, rfl, hI⟩ := hr
  obtain ⟨bh, ch, bl, cl, gA, gc, rfl, rfl, rfl, hc⟩ := ra_reads (w0 := w0) (g := g) (M := M) hI
  obtain ⟨c0, c1, c2, c3, hcell⟩ := hc _ _ h
  obtain ⟨d0, d1, d2⟩ := hcell j _ hs
  have h1 := ra_assoc h
  have f0 := (row_cells6 hI.h (h1.perm (permQ1 _ q1 q2 q3 F)) (j + 1) _ (by rw [show (heldV S)[j + 1]? = (S.map (fun o => Value.bool o.isSome))[j]? from rfl, List.getElem?_map, hs]; rfl)).2
  have f1 := (row_cells6 hI.l (h1.perm (permQ2 _ q1 q2 q3 F)) ((j + 1) * 2) _ (by rw [show (j + 1) * 2 = j * 2 + 1 + 1 by omega]; exact (nodW_get S j _ hs).1)).2
  have f2 := (row_cells6 hI.l (h1.perm (permQ2 _ q1 q2 q3 F)) ((j + 1) * 2 + 1) _ (by rw [show (j + 1) * 2 + 1 = j * 2 + 1 + 1 + 1 by omega]; exact (nodW_get S j _ hs).2)).2
  obtain ⟨n1, n2, n3⟩ := ra_ne hI.h hI.l h
  obtain ⟨q1', hh2, hO1⟩ := ra_wheld hI.h j none h
  obtain ⟨q2', hl2, hO2⟩ := ra_wnode hI.l hj none hO1
  have hO3 := (ra_assoc hO2).perm (permQ4 _ q1' q2' q3 F)
  have hg := hI.g
  have hm1 : G.length + 1 ≤ maxLen := by unfold maxLen; omega
  have hm2 : (G.length + 1) * 8 ≤ 140737488355328 := by omega
  simp only [Option.getD_some, Option.getD_none, Option.isSome_none, Option.isSome_some] at hO3 d0 d1 d2
  have HK := Lib.hid (And.intro hh2 hl2)
  have HO3 := Lib.hid hO3
  have HG := Lib.hid hg
  have HSZ := Lib.hid (show (((w.setCell ⟨bh, j + 1, none⟩ (.bool false)).setCell ⟨bl, (j + 1) * 2, none⟩ (.int .i64 0)).setCell ⟨bl, (j + 1) * 2 + 1, none⟩ (.int .i64 0)).heap.size = w.heap.size by simp)
  clear hc hcell hI hl hO1 hO2 hl2 hh2 hs h h1 hO3 hg
  have k1 : (0 : Int) ≤ (j : Int) + 1 := by omega
  have k2 : (j : Int) + 1 < (S.length : Int) + 1 := by omega
  go_enter Try.func18, Try.ntmps18
  go_wp2_with fail
  go_at_call 24
  refine (CT).mono ?_
  rintro e w2 ⟨rfl, rfl⟩
  go_wp2_with (at_builtin; refine append_one rfl (.tmp 26) (.tmp 28) 22 rfl 3 (.int .i64 0) 8 Try.underlying22 info_int6 rfl _ G.length _ q3 _ _ rfl HG.out HO3.out (by rw [HSZ.out]; rfl) rfl hm1 hm2 ?_)
  intro v2 r2 w5 hrow2 hO5
  obtain ⟨A2, c2, rfl⟩ := hrow2.slice
  have hO6 := hO5.perm (permQ4 [_] q1' q2' r2 F).symm
  have g3 : w5.frozen? ⟨g, 3, none⟩ = false := Owned.frozen hO6 3
  have g4 : w5.cell? ⟨g, 3, none⟩ = some (.slice gA G.length gc) := (Owned.cell hO6 3).trans rfl
  have HO7 := Lib.hid (Owned.set hO6 3 (.slice A2 (G.length + 1) c2))
  have HR := Lib.hid hrow2
  clear hO5 hO6 hrow2 HO3 HG
  go_wp2_with fail
  go_ret
  refine ⟨_, rfl, ⟨_, _, .slice A2 (G.length + 1) c2, q1', q2', r2, rfl, ⟨HK.out.1, HK.out.2, ?_⟩⟩, ?_⟩
  · rw [goneV_cons]
    exact HR.out
  · exact ra_back HO7.out
end
end Go.Proofs.Ytepjebmiegkpnaa
