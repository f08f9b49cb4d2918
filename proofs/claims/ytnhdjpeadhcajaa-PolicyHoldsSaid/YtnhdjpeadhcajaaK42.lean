/- Merged texts: Layer 11: an event is done. -/
import Derived.Test.YtnhdjpeadhcajaaK38
import Derived.Test.YtnhdjpeadhcajaaK40
import Derived.Test.YtnhdjpeadhcajaaK41
import Derived.StillTailTactics
namespace Go.Proofs.Ytnhdjpeadhcajaa
open Go.RowKit Go.Sep DqPure
set_option maxRecDepth 100000
section
variable {g gf gd gm k n : Nat} {P : PSt} {rf rd r F : Own} {o : Obj} {w0 w : World} {d nd key wt : Int}
/-- the block of an event -/
def evB (eb : Nat) (d nd key wt : Int) : Nat × Obj := (eb, .cells #[.int .i64 d, .int .i64 nd, .int .i64 key, .int .i64 wt] 28 (0, 0))
theorem ev_of {W : World} {eb : Nat} {q : Own} (h : Owned w0 W (q ++ (evB eb d nd key wt :: F))) : W.cell? ⟨eb, 0, none⟩ = some (.int .i64 d) ∧ W.cell? ⟨eb, 1, none⟩ = some (.int .i64 nd) ∧ W.cell? ⟨eb, 2, none⟩ = some (.int .i64 key) ∧ W.cell? ⟨eb, 3, none⟩ = some (.int .i64 wt) := by
  have h2 : Owned w0 W (evB eb d nd key wt :: (q ++ F)) := h.perm List.perm_middle
  exact ⟨(h2.cell 0).trans rfl, (h2.cell 1).trans rfl, (h2.cell 2).trans rfl, (h2.cell 3).trans rfl⟩
theorem ev_in {W : World} {eb : Nat} {A B C : Own} (h : Owned w0 W (A ++ (B ++ (C ++ (evB eb d nd key wt :: F))))) : W.cell? ⟨eb, 0, none⟩ = some (.int .i64 d) ∧ W.cell? ⟨eb, 1, none⟩ = some (.int .i64 nd) ∧ W.cell? ⟨eb, 2, none⟩ = some (.int .i64 key) ∧ W.cell? ⟨eb, 3, none⟩ = some (.int .i64 wt) := by
  have h2 : Owned w0 W ((A ++ (B ++ C)) ++ (evB eb d nd key wt :: F)) := by rw [List.append_assoc, List.append_assoc]; exact h
  exact ev_of h2
theorem Stands.ev {eb : Nat} {W : World} (h : Stands w0 (evB eb d nd key wt :: F) g k P W) : W.cell? ⟨eb, 0, none⟩ = some (.int .i64 d) ∧ W.cell? ⟨eb, 1, none⟩ = some (.int .i64 nd) ∧ W.cell? ⟨eb, 2, none⟩ = some (.int .i64 key) ∧ W.cell? ⟨eb, 3, none⟩ = some (.int .i64 wt) := by
  obtain ⟨r, -, hO⟩ := h
  exact ev_of hO
theorem Stands.less {W : World} {p : Nat × Obj} (h : Stands w0 (p :: F) g k P W) : Stands w0 F g k P W := by
  obtain ⟨r, hr, hO⟩ := h
  exact ⟨r, hr, (hO.perm List.perm_middle).tail⟩
theorem Stands.less2 {W : World} {p : Nat × Obj} {q : Own} (h : Stands w0 (q ++ (p :: F)) g k P W) : Stands w0 (q ++ F) g k P W := by
  obtain ⟨r, hr, hO⟩ := h
  refine ⟨r, hr, ?_⟩
  have h2 : Owned w0 W ((r ++ q) ++ (p :: F)) := by rw [List.append_assoc]; exact hO
  have h3 := (h2.perm List.perm_middle).tail
  rw [List.append_assoc] at h3
  exact h3
theorem ev_alloc (hO : Owned w0 w (polB g gf gd gm P o ++ (rf ++ (rd ++ F)))) : Owned w0 (w.alloc (.cells #[.int .i64 d, .int .i64 nd, .int .i64 key, .int .i64 wt] 28)) (polB g gf gd gm P o ++ (rf ++ (rd ++ (evB w.heap.size d nd key wt :: F)))) :=
  (hO.alloc _).perm (perm4 (polB g gf gd gm P o) rf rd [evB w.heap.size d nd key wt] F).symm
set_option maxHeartbeats 3200000 in
theorem p_do_bad (h : PolIn gf gd k n P rf rd o) (hnd : wfk nd) {m : Int} (hm : P.may d nd wt = m) (hm0 : m ≠ 0) (hO : Owned w0 w (polB g gf gd gm P o ++ (rf ++ (rd ++ F)))) :
    Calls Try.prog 12 #[.pointer (some ⟨g, 0, none⟩), .agg #[.int .i64 d, .int .i64 nd, .int .i64 key, .int .i64 wt]] w fun e w' => e = .returned (.tuple #[.slice none 0 0, .int .i64 m]) ∧ Stands w0 F g (k + 1) P w' := by
  have hO1 := ev_alloc (d := d) (nd := nd) (key := key) (wt := wt) hO
  obtain ⟨e0, e1, e2, e3⟩ := ev_in hO1
  have cm := p_may h d nd key wt hnd hO1
  rw [hm] at cm
  unfold evC at cm
  have HI := Lib.hid h.up
  have HO1 := Lib.hid hO1
  have CM := Lib.hid cm
  have d1 : decide (m = 0) = false := by simp; exact hm0
  clear h hO hO1 cm hm
  go_enter Try.func12, Try.ntmps12
  go_wp2_with fail
  go_at_call 25
  refine (CM.out).mono ?_
  rintro e w1 ⟨rfl, hb⟩
  have HO2 := Lib.hid (HO1.out.under hb)
  go_wp2_with fail
  refine bodyPost_ret (results_tmp2 rfl _ _ _) rfl ?_
  exact ⟨rfl, Stands.less (HI.out.shut HO2.out)⟩
set_option maxHeartbeats 3200000 in
theorem p_do_read (h : PolIn gf gd k n P rf rd o) (hk : k ≤ 999999) (hnd : wfk nd) (hm : P.may 2 nd wt = 0) (hh : P.has nd = true) (hO : Owned w0 w (polB g gf gd gm P o ++ (rf ++ (rd ++ F)))) :
    Calls Try.prog 12 #[.pointer (some ⟨g, 0, none⟩), .agg #[.int .i64 2, .int .i64 nd, .int .i64 key, .int .i64 wt]] w fun e w' => e = .returned (.tuple #[.slice none 0 0, .int .i64 0]) ∧ Stands w0 F g (k + 1) (P.read nd) w' := by
  have hO1 := ev_alloc (d := 2) (nd := nd) (key := key) (wt := wt) hO
  obtain ⟨e0, e1, e2, e3⟩ := ev_in hO1
  have cm := p_may h 2 nd key wt hnd hO1
  rw [hm] at cm
  unfold evC at cm
  have HO1 := Lib.hid hO1
  have CM := Lib.hid cm
  clear hO hO1 cm hm
  have hr := fun (W : World) (hW : Owned w0 W (polB g gf gd gm P o ++ (rf ++ (rd ++ (evB w.heap.size 2 nd key wt :: F))))) => p_read h nd hh hk hW
  have HR := Lib.hid hr
  clear hr h hh
  go_enter Try.func12, Try.ntmps12
  go_wp2_with fail
  go_at_call 25
  refine (CM.out).mono ?_
  rintro e w1 ⟨rfl, hb⟩
  have HO2 := Lib.hid (HO1.out.under hb)
  obtain ⟨f0, f1, f2, f3⟩ := ev_in HO2.out
  clear e0 e1 e2 e3
  have cr := HR.out _ HO2.out
  go_wp2_with fail
  go_at_call 31
  refine (cr).mono ?_
  rintro e w2 ⟨rfl, hst⟩
  obtain ⟨g0, g1, g2, g3⟩ := hst.ev
  have HST := Lib.hid hst
  clear hst cr f0 f1 f2 f3
  go_wp2_with fail
  refine bodyPost_ret (results_tmp2 rfl _ _ _) rfl ?_
  exact ⟨rfl, HST.out.less⟩
set_option maxHeartbeats 3200000 in
theorem p_do_remove (h : PolIn gf gd k n P rf rd o) (hk : k ≤ 999999) (hnd : wfk nd) (hm : P.may 4 nd wt = 0) (hO : Owned w0 w (polB g gf gd gm P o ++ (rf ++ (rd ++ F)))) :
    Calls Try.prog 12 #[.pointer (some ⟨g, 0, none⟩), .agg #[.int .i64 4, .int .i64 nd, .int .i64 key, .int .i64 wt]] w fun e w' => e = .returned (.tuple #[.slice none 0 0, .int .i64 0]) ∧ Stands w0 F g (k + 1) (P.drop nd) w' := by
  have hO1 := ev_alloc (d := 4) (nd := nd) (key := key) (wt := wt) hO
  obtain ⟨e0, e1, e2, e3⟩ := ev_in hO1
  have cm := p_may h 4 nd key wt hnd hO1
  rw [hm] at cm
  unfold evC at cm
  have HO1 := Lib.hid hO1
  have CM := Lib.hid cm
  clear hO hO1 cm hm
  have hr := fun (W : World) (hW : Owned w0 W (polB g gf gd gm P o ++ (rf ++ (rd ++ (evB w.heap.size 4 nd key wt :: F))))) => p_drop h.up nd hnd (by omega) hW
  have HR := Lib.hid hr
  clear hr h
  go_enter Try.func12, Try.ntmps12
  go_wp2_with fail
  go_at_call 25
  refine (CM.out).mono ?_
  rintro e w1 ⟨rfl, hb⟩
  have HO2 := Lib.hid (HO1.out.under hb)
  obtain ⟨f0, f1, f2, f3⟩ := ev_in HO2.out
  clear e0 e1 e2 e3
  have cr := HR.out _ HO2.out
  go_wp2_with fail
  go_at_call 32
  refine (cr).mono ?_
  rintro e w2 ⟨rfl, hst⟩
  obtain ⟨g0, g1, g2, g3⟩ := hst.ev
  have HST := Lib.hid hst
  clear hst cr f0 f1 f2 f3
  go_wp2_with fail
  refine bodyPost_ret (results_tmp2 rfl _ _ _) rfl ?_
  exact ⟨rfl, HST.out.less⟩
end
end Go.Proofs.Ytnhdjpeadhcajaa
