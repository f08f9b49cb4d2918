/- The document's arena: Put, a number that was dropped. -/
import Derived.Test.YtepjebmiegkpnaaRefAr6
namespace Go.Proofs.Ytepjebmiegkpnaa
open Go.RowKit Go.Sep
set_option linter.unusedSimpArgs false
theorem row_shrink {e : TypeId} {n c b : Nat} {xs : List Value} {u : Value} {o : Own} (h : Row e 1 (.slice (some ⟨b, 0, none⟩) (n + 1) c) (n + 1) (xs ++ [u]) o) : Row e 1 (.slice (some ⟨b, 0, none⟩) n c) n xs o := by
  obtain ⟨hl, hc⟩ := h
  have hx : xs.length = n := by simpa using hl
  rcases hc with ⟨h0, -, -⟩ | ⟨b2, cap, cur, h0, rfl, h1, h2, h3, h4⟩
  · injection h0 with h0 _ _
    cases h0
  · injection h0 with h0 _ h9
    injection h0 with h0
    injection h0 with h0 _
    subst h0
    subst h9
    refine ⟨by omega, .inr ⟨b, _, cur, rfl, rfl, by omega, h2, h3, ?_⟩⟩
    have h5 : cur.toList.take n = (xs ++ [u]).take n := by rw [← h4, List.take_take, Nat.min_eq_left (by omega)]
    rw [Nat.mul_one, h5, List.take_append_of_le_length (by omega), List.take_of_length_le (by omega)]
section
variable {g M : Nat} {S : Nodes6} {G : List Nat} {r F : Own} {w0 w : World} {hv lv gv : Value} {q1 q2 q3 : Own}
set_option maxHeartbeats 6400000 in
set_option maxRecDepth 100000 in
theorem ra_put_again {x : Nat} {G' : List Nat} (k v : Int) (hr : RefAr g M S (x :: G') r) (hf : S.length ≤ M + G'.length) (hx : 1 ≤ x ∧ x ≤ S.length) (hn : S.length ≤ 100000) (hG : G'.length ≤ 99999) (h : Owned w0 w (r ++ F)) :
    Calls Try.prog 17 #[.pointer (some ⟨g, 0, none⟩), .agg #[.int .i64 k, .int .i64 v]] w (RDid w0 F g M (S.set (x - 1) (some (k, v))) G' (.tuple #[.int .i64 ((x : Nat) : Int), .int .i64 0])) := by
  have hO : Owned w0 (w.alloc (.cells #[.int .i64 k, .int .i64 v] 30)) (r ++ ((w.heap.size, .cells #[.int .i64 k, .int .i64 v] 30 (0, 0)) :: F)) := Owned.comm (a := [_]) (h.alloc (.cells #[.int .i64 k, .int .i64 v] 30))
  have hF : ∀ W r', Owned w0 W (r' ++ ((w.heap.size, .cells #[.int .i64 k, .int .i64 v] 30 (0, 0)) :: F)) → Owned w0 W (r' ++ F) := fun W r' hX => Owned.tail (Owned.comm (b := [_]) hX)
  have hb : ∀ W r', Owned w0 W (r' ++ ((w.heap.size, .cells #[.int .i64 k, .int .i64 v] 30 (0, 0)) :: F)) → W.cell? ⟨w.heap.size, 0, none⟩ = some (.int .i64 k) ∧ W.cell? ⟨w.heap.size, 1, none⟩ = some (.int .i64 v) := fun W r' hX => ⟨(Owned.cell (Owned.comm (b := [_]) hX) 0).trans rfl, (Owned.cell (Owned.comm (b := [_]) hX) 1).trans rfl⟩
  have HF := Lib.hid hF
  have HB := Lib.hid hb
  clear h hF hb
  generalize hz : w.heap.size = z at *
  generalize hw : w.alloc (.cells #[.int .i64 k, .int .i64 v] 30) = w1 at *
  have CL : ∀ d os, Calls Try.prog 21 #[.pointer (some ⟨g, 0, none⟩)] (Go.Sort.grow (redrawn w1 d) os) fun e w' => e = .returned (.int .i64 ((S.length : Int) - ((G'.length + 1 : Nat) : Int))) ∧ Below (Go.Sort.grow (redrawn w1 d) os).heap.size (Go.Sort.grow (redrawn w1 d) os) w' := fun d os => (ra_len hr hn (by simp only [List.length_cons]; omega) (hO.under (below_regrown w1 d os))).mono (by rintro e w' ⟨rfl, rfl⟩; exact ⟨rfl, (Below.refl _ _).drew⟩)
  obtain ⟨j, rfl⟩ : ∃ j, x = j + 1 := ⟨x - 1, by omega⟩
  have hj : j < S.length := by omega
  rw [Nat.add_sub_cancel]
  obtain ⟨o, ho⟩ : ∃ o, S[j]? = some o := ⟨_, List.getElem?_eq_getElem hj⟩
  obtain ⟨hv, lv, gv, q1, q2, q3, rfl, hI⟩ := hr
  obtain ⟨bh, ch, bl, cl, gA, gc, rfl, rfl, rfl, hc⟩ := ra_reads (w0 := w0) (g := g) (M := M) hI
  obtain ⟨bg, gc2, e0, hgc⟩ := row_some hI.g (by simp)
  injection e0 with e0 _ e1
  subst e0
  subst e1
  have hg0 : Row 3 1 (.slice (some ⟨bg, 0, none⟩) (G'.length + 1) gc) (G'.length + 1) (goneV G' ++ [.int .i64 ((j + 1 : Nat) : Int)]) q3 := by rw [← goneV_cons]; exact hI.g
  obtain ⟨c0, -⟩ := hc _ _ hO
  have c0' := cell_regrown c0
  obtain ⟨m, hm⟩ : ∃ m, G'.length = m := ⟨_, rfl⟩
  have k1 : ¬ (M : Int) ≤ (S.length : Int) - ((G'.length + 1 : Nat) : Int) := by omega
  have k1b : ¬ (M : Int) ≤ (S.length : Int) - ((G'.length : Int) + 1) := by omega
  have hcell : (goneV G' ++ [Value.int .i64 ((j + 1 : Nat) : Int)])[m]? = some (.int .i64 ((j + 1 : Nat) : Int)) := by
    have e : (goneV G').length = m := by unfold goneV ints; simp [hm]
    rw [List.getElem?_append_right (by omega), e, Nat.sub_self]
    rfl
  have HI := Lib.hid hI
  have HO := Lib.hid hO
  have HC := Lib.hid hc
  have HJ := Lib.hid (And.intro hj ho)
  have HG0 := Lib.hid (And.intro hg0 hcell)
  have HM := Lib.hid hm
  rw [hm] at CL k1 k1b hG
  obtain ⟨n, hn2⟩ : ∃ n, S.length = n := ⟨_, rfl⟩
  have HN := Lib.hid hn2
  rw [hn2] at CL k1 k1b hj
  have hgc2 : m + 1 ≤ gc := by simp only [List.length_cons, hm] at hgc; exact hgc
  have a1 : IntKind.i64.wrap ((m : Int) + 1 - 1) = (m : Int) := by rw [IntKind.wrap_i64]; omega
  have a2 : IntKind.i64.wrap (((m + 1 : Nat) : Int) - 1) = (m : Int) := by rw [IntKind.wrap_i64]; omega
  have a3 : (0 : Int) ≤ (m : Int) := by omega
  have a4 : (m : Int) < (m : Int) + 1 := by omega
  have a5 : (m : Int) ≤ (gc : Int) := by omega
  have a6 : (0 : Int) ≤ (j : Int) + 1 := by omega
  have a7 : (j : Int) + 1 < (n : Int) + 1 := by omega
  have a8 : IntKind.i64.wrap (m : Int) = (m : Int) := by rw [IntKind.wrap_i64]; omega
  clear hc hI hO hf hn hn2 hg0 hcell hx ho hm hgc
  go_enter Try.func17, Try.ntmps17
  go_wp2_with fail
  refine wp_region_quiet_below (by kernel_rfl) (by kernel_rfl) ?_
  repeat (first | go_big_quiet_step ((first | (go_at_call 21; with_reducible exact Calls.regrown_of (CL _ _)))) | quiet_step ((first | (go_at_call 21; with_reducible exact Calls.regrown_of (CL _ _)))))
  refine wpQuiet_nil ?_
  intro _ hw'
  obtain ⟨⟨dq, osq⟩, hw''⟩ := hw'
  subst hw''
  have HO2 := Lib.hid (HO.out.under (below_regrown w1 dq osq))
  clear HO CL c0 c0'
  generalize Go.Sort.grow (redrawn w1 dq) osq = w2 at *
  have hOa := HO2.out
  obtain ⟨t0, t1, t2, t3, -⟩ := HC.out _ _ hOa
  obtain ⟨t4, t5⟩ := HB.out _ _ hOa
  rw [HN.out] at t1 t2
  rw [List.length_cons, HM.out] at t3
  have t6 : w2.cell? ⟨bg, m, none⟩ = some (.int .i64 ((j + 1 : Nat) : Int)) := (row_cells6 HG0.out.1 ((ra_assoc hOa).perm (permQ4 _ q1 q2 q3 _)) m _ HG0.out.2).1
  have f3 : w2.frozen? ⟨g, 3, none⟩ = false := Owned.frozen (ra_assoc hOa) 3
  clear hOa
  go_wp2_with fail
  go_still_tail 12, (by kernel_rfl)
  go_wp2_with fail
  have HO3 := Lib.hid HO2.out.drew
  replace t3 : w2.drew.cell? ⟨g, 3, none⟩ = some (.slice (some ⟨bg, 0, none⟩) (m + 1) gc) := t3
  replace f3 : w2.drew.frozen? ⟨g, 3, none⟩ = false := f3
  change Code.wp Try.prog _ _ _ w2.drew
  generalize w2.drew = w3 at *
  clear HO2 t0 t1 t2 t4 t5 t6
  go_still_tail 14, (by kernel_rfl)
  go_wp2_with fail
  have hO4 := ra_back (Owned.set (ra_assoc HO3.out) 3 (.slice (some ⟨bg, 0, none⟩) m gc)).drew
  clear HO3 t3 f3
  generalize (w3.setCell ⟨g, 3, none⟩ (.slice (some ⟨bg, 0, none⟩) m gc)).drew = w4 at *
  have hI4 : RaIn (.slice (some ⟨bh, 0, none⟩) (S.length + 1) ch) (.slice (some ⟨bl, 0, none⟩) (S.length + 1) cl) (.slice (some ⟨bg, 0, none⟩) m gc) q1 q2 q3 S G' := ⟨HI.out.h, HI.out.l, by have := row_shrink HG0.out.1; rw [HM.out] at this; rw [HM.out]; exact this⟩
  have h4a := ra_assoc hO4
  have t1 : w4.cell? ⟨g, 1, none⟩ = some (.slice (some ⟨bh, 0, none⟩) (n + 1) ch) := by rw [← HN.out]; exact (Owned.cell h4a 1).trans rfl
  have t2 : w4.cell? ⟨g, 2, none⟩ = some (.slice (some ⟨bl, 0, none⟩) (n + 1) cl) := by rw [← HN.out]; exact (Owned.cell h4a 2).trans rfl
  obtain ⟨t4, t5⟩ := HB.out _ _ hO4
  have d1 := row_cells6 hI4.l (h4a.perm (permQ2 _ q1 q2 q3 _)) ((j + 1) * 2) _ (by rw [show (j + 1) * 2 = j * 2 + 1 + 1 by omega]; exact (nodW_get S j _ HJ.out.2).1)
  have d2 := row_cells6 hI4.l (h4a.perm (permQ2 _ q1 q2 q3 _)) ((j + 1) * 2 + 1) _ (by rw [show (j + 1) * 2 + 1 = j * 2 + 1 + 1 + 1 by omega]; exact (nodW_get S j _ HJ.out.2).2)
  obtain ⟨d1c, d1f⟩ := d1
  obtain ⟨d2c, d2f⟩ := d2
  generalize (Value.int IntKind.i64 (o.getD (0, 0)).1) = ov1 at *
  generalize (Value.int IntKind.i64 (o.getD (0, 0)).2) = ov2 at *
  obtain ⟨q2', hl5, hO5⟩ := ra_wnode hI4.l HJ.out.1 (some (k, v)) hO4
  obtain ⟨n1, n2, n3⟩ := ra_ne hI4.h hI4.l hO4
  obtain ⟨b1c, b1f⟩ := row_cells6 hI4.h (h4a.perm (permQ1 _ q1 q2 q3 _)) (j + 1) _ (by rw [show (heldV S)[j + 1]? = (S.map (fun o => Value.bool o.isSome))[j]? from rfl, List.getElem?_map, HJ.out.2]; rfl)
  generalize (Value.bool o.isSome) = ov3 at *
  obtain ⟨q1', hh6, hO6⟩ := ra_wheld hI4.h j (some (k, v)) hO5.drew
  have HO6 := Lib.hid hO6
  have HI4 := Lib.hid (show RaIn (.slice (some ⟨bh, 0, none⟩) (S.length + 1) ch) (.slice (some ⟨bl, 0, none⟩) (S.length + 1) cl) (.slice (some ⟨bg, 0, none⟩) m gc) q1' q2' q3 (S.set j (some (k, v))) G' from ⟨hh6, hl5, hI4.g⟩)
  clear hI4 hO4 h4a hl5 hO5 hO6 hh6 HC HI HG0 HB
  go_wp2_with fail
  go_still_tail 7, (by kernel_rfl)
  go_wp2_with fail
  refine bodyPost_ret (results_tmp2 rfl _ _ _) rfl ?_
  refine ⟨_, by simp, ⟨_, _, _, _, _, _, rfl, HI4.out⟩, HF.out _ _ HO6.out⟩
end
end Go.Proofs.Ytepjebmiegkpnaa
