/- The document's arena: Put, a number that is new. -/
import Derived.Test.YtepjebmiegkpnaaRefAr5
namespace Go.Proofs.Ytepjebmiegkpnaa
open Go.RowKit Go.Sep
set_option linter.unusedSimpArgs false
section
variable {g M : Nat} {S : Nodes6} {G : List Nat} {r F : Own} {w0 w : World} {hv lv gv : Value} {q1 q2 q3 : Own}
theorem heldV_snoc (S : Nodes6) (p : Int × Int) : heldV (S ++ [some p]) = heldV S ++ [.bool true] := by
  unfold heldV
  rw [List.map_append]
  rfl
theorem nodV_snoc (S : Nodes6) (p : Int × Int) : nodV (S ++ [some p]) = nodV S ++ [.int .i64 p.1, .int .i64 p.2] := by
  unfold nodV
  rw [nodW_append]
  rfl
theorem permN1 (g a b c N : Go.Sep.Own) : (g ++ (a ++ (b ++ (c ++ (N))))).Perm (b ++ (g ++ (a ++ (c ++ (N))))) :=
  (perm3 g a b _).trans (List.Perm.append_left b (List.Perm.refl _))
theorem permN2 (g a b c N : Go.Sep.Own) : (g ++ (a ++ (b ++ (c ++ (N))))).Perm (a ++ (g ++ (b ++ (c ++ (N))))) :=
  (perm2 g a _).trans (List.Perm.append_left a (List.Perm.refl _))
theorem ra_focusL (h : Owned w0 w (RaB g M hv lv gv q1 q2 q3 ++ F)) : Owned w0 w (q2 ++ ([(g, .cells #[.int .i64 (M : Int), hv, lv, gv] 48 (0, 0))] ++ (q1 ++ (q3 ++ F)))) := (ra_assoc h).perm (permN1 _ q1 q2 q3 F)
theorem ra_unfocusL (h : Owned w0 w (q2 ++ ([(g, .cells #[.int .i64 (M : Int), hv, lv, gv] 48 (0, 0))] ++ (q1 ++ (q3 ++ F))))) : Owned w0 w ((g, .cells #[.int .i64 (M : Int), hv, lv, gv] 48 (0, 0)) :: (q1 ++ (q2 ++ (q3 ++ F)))) := h.perm (permN1 [_] q1 q2 q3 F).symm
theorem ra_back_box (h : Owned w0 w ((g, .cells #[.int .i64 (M : Int), hv, lv, gv] 48 (0, 0)) :: (q1 ++ (q2 ++ (q3 ++ F))))) : Owned w0 w (RaB g M hv lv gv q1 q2 q3 ++ F) := ra_back h
set_option maxHeartbeats 6400000 in
set_option maxRecDepth 100000 in
theorem ra_put_new (k v : Int) (hr : RefAr g M S [] r) (hf : S.length < M) (hn : S.length ≤ 99000) (h : Owned w0 w (r ++ F)) :
    Calls Try.prog 17 #[.pointer (some ⟨g, 0, none⟩), .agg #[.int .i64 k, .int .i64 v]] w (RDid w0 F g M (S ++ [some (k, v)]) [] (.tuple #[.int .i64 ((S.length + 1 : Nat) : Int), .int .i64 0])) := by
  have hO : Owned w0 (w.alloc (.cells #[.int .i64 k, .int .i64 v] 30)) (r ++ ((w.heap.size, .cells #[.int .i64 k, .int .i64 v] 30 (0, 0)) :: F)) := Owned.comm (a := [_]) (h.alloc (.cells #[.int .i64 k, .int .i64 v] 30))
  have hF : ∀ W r', Owned w0 W (r' ++ ((w.heap.size, .cells #[.int .i64 k, .int .i64 v] 30 (0, 0)) :: F)) → Owned w0 W (r' ++ F) := fun W r' hX => Owned.tail (Owned.comm (b := [_]) hX)
  have hb : ∀ W r', Owned w0 W (r' ++ ((w.heap.size, .cells #[.int .i64 k, .int .i64 v] 30 (0, 0)) :: F)) → W.cell? ⟨w.heap.size, 0, none⟩ = some (.int .i64 k) ∧ W.cell? ⟨w.heap.size, 1, none⟩ = some (.int .i64 v) := fun W r' hX => ⟨(Owned.cell (Owned.comm (b := [_]) hX) 0).trans rfl, (Owned.cell (Owned.comm (b := [_]) hX) 1).trans rfl⟩
  have HF := Lib.hid hF
  have HB := Lib.hid hb
  clear h hF hb
  generalize hz : w.heap.size = z at *
  generalize hw : w.alloc (.cells #[.int .i64 k, .int .i64 v] 30) = w1 at *
  have CL : ∀ d os, Calls Try.prog 21 #[.pointer (some ⟨g, 0, none⟩)] (Go.Sort.grow (redrawn w1 d) os) fun e w' => e = .returned (.int .i64 (S.length : Int)) ∧ Below (Go.Sort.grow (redrawn w1 d) os).heap.size (Go.Sort.grow (redrawn w1 d) os) w' := fun d os => (ra_len hr (by omega) (by simp) (hO.under (below_regrown w1 d os))).mono (by rintro e w' ⟨rfl, rfl⟩; exact ⟨by simp, (Below.refl _ _).drew⟩)
  obtain ⟨hv, lv, gv, q1, q2, q3, rfl, hI⟩ := hr
  obtain ⟨bh, ch, bl, cl, gA, gc, rfl, rfl, rfl, hc⟩ := ra_reads (w0 := w0) (g := g) (M := M) hI
  obtain ⟨c0, -⟩ := hc _ _ hO
  have c0' := cell_regrown c0
  have k1 : ¬ (M : Int) ≤ (S.length : Int) := by omega
  have k3 : ¬ M ≤ S.length := by omega
  have k2 : decide ((M : Int) ≤ (S.length : Int)) = false := by simp; omega
  have HI := Lib.hid hI
  have HO := Lib.hid hO
  have HC := Lib.hid hc
  obtain ⟨n, hn2⟩ : ∃ n, S.length = n := ⟨_, rfl⟩
  have HN := Lib.hid hn2
  rw [hn2] at CL k1 k2 k3 ⊢
  have hm1 : n + 1 + 1 ≤ maxLen := by unfold maxLen; omega
  have hm2 : (n + 1 + 1) * 16 ≤ 140737488355328 := by omega
  have hm3 : (n + 1 + 1) * 1 ≤ 140737488355328 := by omega
  have hw1 : IntKind.i64.wrap ((n : Int) + 1 + 1 - 1) = (n : Int) + 1 := by rw [IntKind.wrap_i64]; omega
  have hw2 : IntKind.i64.wrap (((n + 1 + 1 : Nat) : Int) - 1) = (n : Int) + 1 := by rw [IntKind.wrap_i64]; omega
  clear hc hI hO hf hn hn2
  go_enter Try.func17, Try.ntmps17
  go_wp2_with fail
  refine wp_region_quiet_below (by kernel_rfl) (by kernel_rfl) ?_
  repeat (first | go_big_quiet_step ((first | (go_at_call 21; with_reducible exact Calls.regrown_of (CL _ _)))) | quiet_step ((first | (go_at_call 21; with_reducible exact Calls.regrown_of (CL _ _)))))
  refine wpQuiet_nil ?_
  intro _ hw'
  obtain ⟨⟨dq, osq⟩, hw''⟩ := hw'
  subst hw''
  have HO2 := Lib.hid (HO.out.under (below_regrown w1 dq osq))
  clear HO CL c0 c0' k1
  generalize Go.Sort.grow (redrawn w1 dq) osq = w2 at *
  have hOa := HO2.out
  obtain ⟨t0, t1, t2, t3, -⟩ := HC.out _ _ hOa
  obtain ⟨t4, t5⟩ := HB.out _ _ hOa
  rw [HN.out] at t1 t2
  rw [List.length_nil] at t3
  clear hOa
  go_wp2_with fail
  refine wp_region_pop (S := fun w' => w'.cell? ⟨g, 2, none⟩ = some (.slice (some ⟨bl, 0, none⟩) (n + 1) cl) ∧ w'.cell? ⟨z, 0, none⟩ = some (.int .i64 k) ∧ w'.cell? ⟨z, 1, none⟩ = some (.int .i64 v)) 10 _ rfl (by kernel_rfl) (by kernel_rfl) ⟨t2, t4, t5⟩ (fun hHeld => ?_)
  simp only [List.take_succ_cons, List.take_zero]
  refine wpAnyH_take (i := 0) (oi := _) (v := ?_) (by simp only [List.getElem?_toArray, List.getElem?_cons_succ, List.getElem?_cons_zero]; exact rfl) (by kernel_rfl) (by kernel_rfl) (by kernel_rfl) (by intro _ _ _ h; exact h) (Or.inl ⟨by rfl, ?_⟩) (by assumption) ?_
  rotate_left
  · intro w hSw; (try dsimp only at hSw); go_simp; (try with_reducible rfl)
  try simp only [Act.put, List.setIfInBounds_toArray, List.set_cons_zero, List.set_cons_succ]
  refine wpAnyH_take (i := 1) (oi := _) (v := ?_) (by simp only [List.getElem?_toArray, List.getElem?_cons_succ, List.getElem?_cons_zero]; exact rfl) (by kernel_rfl) (by kernel_rfl) (by kernel_rfl) (by intro _ _ _ h; exact h) (Or.inl ⟨by rfl, ?_⟩) (by assumption) ?_
  rotate_left
  · intro w hSw; (try dsimp only at hSw); go_simp; (try with_reducible rfl)
  try simp only [Act.put, List.setIfInBounds_toArray, List.set_cons_zero, List.set_cons_succ]
  refine wpAnyH_take (i := 2) (oi := _) (v := ?_) (by simp only [List.getElem?_toArray, List.getElem?_cons_succ, List.getElem?_cons_zero]; exact rfl) (by kernel_rfl) (by kernel_rfl) (by kernel_rfl) (by intro _ _ _ h; exact h) (Or.inl ⟨by rfl, ?_⟩) (by assumption) ?_
  rotate_left
  · intro w hSw; (try dsimp only at hSw); go_simp; (try with_reducible rfl)
  try simp only [Act.put, List.setIfInBounds_toArray, List.set_cons_zero, List.set_cons_succ]
  refine wpAnyH_take (i := 3) (oi := _) (v := ?_) (by simp only [List.getElem?_toArray, List.getElem?_cons_succ, List.getElem?_cons_zero]; exact rfl) (by kernel_rfl) (by kernel_rfl) (by kernel_rfl) (by intro _ _ _ h; exact h) (Or.inl ⟨by rfl, ?_⟩) (by assumption) ?_
  rotate_left
  · intro w hSw; (try dsimp only at hSw); go_simp; (try with_reducible rfl)
  try simp only [Act.put, List.setIfInBounds_toArray, List.set_cons_zero, List.set_cons_succ]
  refine wpAnyH_take (i := 4) (oi := _) (v := ?_) (by simp only [List.getElem?_toArray, List.getElem?_cons_succ, List.getElem?_cons_zero]; exact rfl) (by kernel_rfl) (by kernel_rfl) (by kernel_rfl) (by intro _ _ _ h; exact h) (Or.inl ⟨by rfl, ?_⟩) (by assumption) ?_
  rotate_left
  · intro w hSw; (try dsimp only at hSw); go_simp; (try with_reducible rfl)
  try simp only [Act.put, List.setIfInBounds_toArray, List.set_cons_zero, List.set_cons_succ]
  refine wpAnyH_take (i := 5) (oi := _) (v := ?_) (by simp only [List.getElem?_toArray, List.getElem?_cons_succ, List.getElem?_cons_zero]; exact rfl) (by kernel_rfl) (by kernel_rfl) (by kernel_rfl) (by intro _ _ _ h; exact h) (Or.inl ⟨by rfl, ?_⟩) (by assumption) ?_
  rotate_left
  · intro w hSw; (try dsimp only at hSw); go_simp; (try with_reducible rfl)
  try simp only [Act.put, List.setIfInBounds_toArray, List.set_cons_zero, List.set_cons_succ]
  refine wpAnyH_ready (rs := [6]) (by kernel_rfl) (by simp) (AllReadyH.cons (o := _) rfl (fun K hK => ?_) AllReadyH.nil)
  go_simp
  have hOa := HO2.out.drew.alloc_ (.cells #[.int .i64 k, .int .i64 v] 30)
  obtain ⟨-, -, t2a, -, -⟩ := HC.out _ _ hOa
  obtain ⟨t4a, t5a⟩ := HB.out _ _ hOa
  rw [HN.out] at t2a
  have HOA := Lib.hid (ra_focusL hOa)
  have HL := Lib.hid (show Row 30 2 (.slice (some ⟨bl, 0, none⟩) (n + 1) cl) (n + 1) (nodV S) q2 from by have := HI.out.l; rw [HN.out] at this; exact this)
  clear hOa
  refine hK.out _ _ ⟨t2a, t4a, t5a⟩ (fun hHeld => ?_)
  clear hK K
  try simp only [Act.put, List.setIfInBounds_toArray, List.set_cons_zero, List.set_cons_succ]
  refine wpAnyH_ready (rs := [7]) (by kernel_rfl) (by simp) (AllReadyH.cons (o := _) rfl (fun K hK => ?_) AllReadyH.nil)
  refine step_append_gen rfl (.tmp 24) (.tmp 26) 46 rfl 30 (.agg #[.int .i64 0, .int .i64 0]) 2 16 Try.underlying46 info_node6 rfl (by decide) _ (n + 1) (nodV S) q2 _ rfl HL.out HOA.out ⟨w2.drew.heap.size, 0, none⟩ 1 1 [.int .i64 k, .int .i64 v] rfl rfl (cells_two_new w2.drew _ _ _) (by simp [Value.oneCell']) hm1 hm2 ?_
  intro v2 r2 w5 hrow2 hO5
  obtain ⟨A2, c2, rfl⟩ := hrow2.slice
  have hO6 := ra_unfocusL hO5
  have t2b : w5.cell? ⟨g, 2, none⟩ = some (.slice (some ⟨bl, 0, none⟩) (n + 1) cl) := by rw [← HN.out]; exact (Owned.cell hO6 2).trans rfl
  have t3b : w5.cell? ⟨g, 3, none⟩ = some (.slice gA 0 gc) := (Owned.cell hO6 3).trans rfl
  have t1b : w5.cell? ⟨g, 1, none⟩ = some (.slice (some ⟨bh, 0, none⟩) (n + 1) ch) := by rw [← HN.out]; exact (Owned.cell hO6 1).trans rfl
  have f2b : w5.frozen? ⟨g, 2, none⟩ = false := Owned.frozen hO6 2
  have f1b : w5.frozen? ⟨g, 1, none⟩ = false := Owned.frozen hO6 1
  obtain ⟨t4b, t5b⟩ := HB.out _ _ (ra_back_box hO6)
  have HO7 := Lib.hid (Owned.set hO6 2 (.slice A2 (n + 1 + 1) c2))
  have HR2 := Lib.hid hrow2
  refine hK.out _ _ ⟨t2b, t4b, t5b⟩ (fun hHeld => ?_)
  clear hK K hO5 hO6 hrow2 HOA t2a t4a t5a t0 t1 t2 t3 t4 t5
  try simp only [Act.put, List.setIfInBounds_toArray, List.set_cons_zero, List.set_cons_succ]
  refine wpAnyH_take (i := 8) (oi := _) (v := ?_) (by simp only [List.getElem?_toArray, List.getElem?_cons_succ, List.getElem?_cons_zero]; exact rfl) (by kernel_rfl) (by kernel_rfl) (by kernel_rfl) (by intro _ _ _ h; exact h) (Or.inl ⟨by rfl, ?_⟩) (by assumption) ?_
  rotate_left
  · intro w hSw; (try dsimp only at hSw); go_simp; (try with_reducible rfl)
  try simp only [Act.put, List.setIfInBounds_toArray, List.set_cons_zero, List.set_cons_succ]
  refine wpAnyH_take (i := 9) (oi := _) (v := ?_) (by simp only [List.getElem?_toArray, List.getElem?_cons_succ, List.getElem?_cons_zero]; exact rfl) (by kernel_rfl) (by kernel_rfl) (by kernel_rfl) (by intro _ _ _ h; exact h) (Or.inl ⟨by rfl, ?_⟩) (by assumption) ?_
  rotate_left
  · intro w hSw; (try dsimp only at hSw); go_simp; (try with_reducible rfl)
  try simp only [Act.put, List.setIfInBounds_toArray, List.set_cons_zero, List.set_cons_succ]
  refine wpAnyH_done (by kernel_rfl) ?_ _
  unfold popQ
  go_simp
  have HO9 := Lib.hid (HO7.out.perm (permN2 [_] q1 r2 q3 _))
  have HSZ := Lib.hid (show (w5.setCell ⟨g, 2, none⟩ (.slice A2 (n + 1 + 1) c2)).heap.size = w5.heap.size by simp)
  have HH := Lib.hid (show Row 4 1 (.slice (some ⟨bh, 0, none⟩) (n + 1) ch) (n + 1) (heldV S) q1 from by have := HI.out.h; rw [HN.out] at this; exact this)
  go_wp2_with (at_builtin; refine append_one rfl (.tmp 34) (.tmp 35) 45 rfl 4 (.bool false) 1 Try.underlying45 info_bool6 rfl _ (n + 1) _ q1 _ _ rfl HH.out HO9.out (by rw [HSZ.out]; rfl) rfl hm1 hm3 ?_)
  intro v3 r3 w6 hrow3 hO8
  obtain ⟨A3, c3, rfl⟩ := hrow3.slice
  have hO10 := hO8.perm (permN2 [_] r3 r2 q3 _).symm
  have u1 : w6.frozen? ⟨g, 1, none⟩ = false := Owned.frozen hO10 1
  have u2 : w6.cell? ⟨g, 2, none⟩ = some (.slice A2 (n + 1 + 1) c2) := (Owned.cell hO10 2).trans rfl
  have u3 : w6.cell? ⟨g, 1, none⟩ = some (.slice (some ⟨bh, 0, none⟩) (n + 1) ch) := by rw [← HN.out]; exact (Owned.cell hO10 1).trans rfl
  have HO11 := Lib.hid (Owned.set hO10 1 (.slice A3 (n + 1 + 1) c3))
  have HR3 := Lib.hid hrow3
  clear hO8 hO10 hrow3 HO9 HO7 t1b t2b t3b f2b f1b t4b t5b HO2 HB
  go_wp2_with fail
  refine bodyPost_ret (results_tmp2 rfl _ _ _) rfl ?_
  refine ⟨_, by simp [HN.out], ⟨.slice A3 (n + 1 + 1) c3, .slice A2 (n + 1 + 1) c2, .slice gA 0 gc, r3, r2, q3, rfl, ⟨?_, ?_, HI.out.g⟩⟩, HF.out _ _ (ra_back HO11.out)⟩
  · rw [List.length_append, HN.out, heldV_snoc]
    exact HR3.out
  · rw [List.length_append, HN.out, nodV_snoc]
    exact HR2.out
end
end Go.Proofs.Ytepjebmiegkpnaa
