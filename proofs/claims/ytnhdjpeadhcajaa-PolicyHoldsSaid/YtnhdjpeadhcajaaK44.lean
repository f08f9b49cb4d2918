/- Merged texts: Layer 11: the nodes of a row. Layer 11: an empty policy. -/
import Derived.Test.YtnhdjpeadhcajaaK41
import Derived.Test.YtnhdjpeadhcajaaK31
namespace Go.Proofs.Ytnhdjpeadhcajaa
open Go.RowKit Go.Sep DqPure Go.Shelf
set_option maxRecDepth 100000
attribute [local go_sem] Oper.semAt_some
theorem permD (K : Sep.Own) (b1 : Nat × Obj) (rq T : Sep.Own) : (K ++ ((b1 :: rq) ++ T)).Perm (rq ++ (b1 :: (K ++ T))) :=
  (perm3 K [b1] rq T).trans (List.Perm.append_left rq (perm2 K [b1] T))
/-- the numbers of a row -/
def PSt.row (P : PSt) (x : Int) : List Int := idsAt 3 P.st x
section
variable {g gf gd gm k n : Nat} {P : PSt} {rf rd r F : Sep.Own} {o : Obj} {w0 w : World}
set_option maxHeartbeats 3200000 in
theorem p_row (h : PolIn gf gd k n P rf rd o) (hk : k ≤ 1000000) (x : Int) (hO : Owned w0 w (polB g gf gd gm P o ++ (rf ++ (rd ++ F)))) :
    Calls Try.prog 13 #[.pointer (some ⟨g, 0, none⟩), .int .i64 x] w fun e w' => ∃ v rq, e = .returned v ∧ Row 3 1 v (P.row x).length (ints (P.row x)) rq ∧ Owned w0 w' (rq ++ (polB g gf gd gm P o ++ (rf ++ (rd ++ F)))) := by
  have hlen := idsAt_len h.dq x
  have hiter := fun ba bb => all_iter (w0 := w0) h.dq x ba bb
  have hnk := h.inv.n
  have c3 := (polB_cell (hO.alloc_ (.cells #[.slice none 0 0] 26)) 3).trans (show (polC gf gd gm P)[3]? = some (.pointer (some ⟨gd, 0, none⟩)) from rfl)
  unfold PSt.row
  generalize idsAt 3 P.st x = xs at *
  clear h
  refine (callsIn_wide (n := 9)).1 ?_
  refine callsIn_of_wp_marks Try.func13 rfl trivial ?_ rfl
  simp only [Try.ntmps13, List.size_toArray, List.length_cons, List.length_nil, Nat.reduceAdd, Nat.reduceSub, Array.replicate_succ, Array.replicate_zero, List.push_toArray, List.append_toArray, List.nil_append, List.cons_append]
  have hO1 := (hO.alloc (.cells #[.slice none 0 0] 26)).alloc2 (.cells #[.pointer (some ⟨gd, 0, none⟩)] 53) (.cells #[.int .i64 x] 3)
  gi_wp2_with (refine ⟨trivial, ?_⟩; gi_at_call 33; refine (callsIn_wide.2 (all_calls _ _ _)).mono ?_; rintro e w' ⟨rfl, rfl⟩)
  simp only [World.size_alloc] at hO1
  generalize hW0 : (((w.alloc (.cells #[.slice none 0 0] 26)).alloc (.cells #[.pointer (some ⟨gd, 0, none⟩)] 53)).alloc (.cells #[.int .i64 x] 3)) = W0 at *
  clear hW0 c3
  generalize w.heap.size = B at *
  have hO2 : Owned w0 W0 ([lbox B (.slice none 0 0) 26] ++ ((lbox (B + 1) (.pointer (some ⟨gd, 0, none⟩)) 53 :: lbox (B + 1 + 1) (.int .i64 x) 3 :: rd) ++ (polB g gf gd gm P o ++ (rf ++ F)))) :=
    hO1.perm ((List.Perm.append_left [lbox (B + 1) (.pointer (some ⟨gd, 0, none⟩)) 53, lbox (B + 1 + 1) (.int .i64 x) 3] (perm4 [lbox B (.slice none 0 0) 26] (polB g gf gd gm P o) rf rd F)).trans (perm2 (lbox (B + 1) (.pointer (some ⟨gd, 0, none⟩)) 53 :: lbox (B + 1 + 1) (.int .i64 x) 3 :: rd) [lbox B (.slice none 0 0) 26] _))
  clear hO1 hO
  refine range_own (P := Try.prog) (w0 := w0) (gf := 59) (lb := #[.pointer (some ⟨B + 1, 0, none⟩), .pointer (some ⟨B + 1 + 1, 0, none⟩)]) rfl (enters_of Try.func59 (by kernel_rfl) rfl) (fun _ => rfl) (hiter (B + 1) (B + 1 + 1)) (N := polB g gf gd gm P o ++ (rf ++ F))
    (fun pre q => ∃ v rq, q = lbox B v 26 :: rq ∧ Row 3 1 v pre.length (ints pre) rq)
    (fun _ _ _ => False) ⟨_, [], rfl, Row.nil _ _⟩ hO2
    (fun x' => { tmps := #[.pointer (some ⟨g, 0, none⟩), .int .i64 x, undef, undef, .slice none 0 0, .pointer (some ⟨B, 0, none⟩), .int .i64 x', .pointer (some ⟨g, 0, none⟩), .pointer (some ⟨g, 0, none⟩), .pointer (some ⟨g, 3, none⟩), .pointer (some ⟨gd, 0, none⟩), .int .i64 x, .func (.func 59) #[] #[.pointer (some ⟨B + 1, 0, none⟩), .pointer (some ⟨B + 1 + 1, 0, none⟩)], .int .i64 x', undef, undef, undef, undef, undef], defers := [] })
    ?assign ?body ?done ?stop
  case assign =>
    intro l2 x' W K hK
    gi_wp2
    exact hK
  case body =>
    rintro l2 pre x' post hx K W q ⟨v, rq, rfl, hrow⟩ hO
    have hO1 := hO.perm (permD K _ rq _)
    have c1 : W.cell? ⟨B, 0, none⟩ = some v := (Owned.cell (hO1.perm List.perm_middle) 0).trans rfl
    have hjn : pre.length + 1 ≤ n := by rw [hx, List.length_append, List.length_cons] at hlen; omega
    obtain ⟨j, hj⟩ : ∃ j, pre.length = j := ⟨_, rfl⟩
    rw [hj] at hrow hjn
    have hm1 : j + 1 ≤ maxLen := by unfold maxLen; omega
    have hm2 : (j + 1) * 8 ≤ 140737488355328 := by omega
    have HX := Lib.hid (show (pre ++ [x']).length = j + 1 by rw [List.length_append, hj]; rfl)
    have HI := Lib.hid (ints_snoc pre x')
    clear hx hO hlen hiter hj
    gi_wp2_with (gi_at_builtin; refine append_one_in rfl (.tmp 14) (.tmp 16) 26 rfl 3 (.int .i64 0) 8 Try.underlying26 info_i7 rfl _ j _ rq _ _ rfl hrow hO1 rfl rfl hm1 hm2 ?_)
    intro v2 rq2 w9 hrow2 hO9
    obtain ⟨A2, c2, rfl⟩ := hrow2.slice
    have hO10 := hO9.perm List.perm_middle
    have hO11 := hO10.set 0 (.slice A2 (j + 1) c2)
    have c9 : w9.cell? ⟨B, 0, none⟩ = some v := (Owned.cell hO10 0).trans rfl
    have f9 : w9.frozen? ⟨B, 0, none⟩ = false := Owned.frozen hO10 0
    have hO12 := hO11.perm (List.perm_middle (l₁ := rq2)).symm
    have hE := Lib.hid (hO12.perm (permD K (lbox B (.slice A2 (j + 1) c2) 26) rq2 _).symm)
    have HROW := Lib.hid hrow2
    clear hO12 hO11 hO10 hO9 hrow2 hrow hO1 c1
    gi_wp2
    exact ⟨_, ⟨_, rq2, rfl, by rw [HX.out, HI.out]; exact HROW.out⟩, hE.out⟩
  case done =>
    rintro D W q ⟨v, rq, rfl, hrow⟩ hO
    have hO1 := hO.perm (permD [(D, .deferred (some []))] _ rq _)
    have c1 : W.cell? ⟨B, 0, none⟩ = some v := (Owned.cell (hO1.perm List.perm_middle) 0).trans rfl
    gi_wp2
    refine ⟨by simp, .inl ⟨_, _, rfl, run_takeDeferred hO.head, ?_⟩⟩
    refine ⟨_, results_tmp rfl _ _ _, v, rq, rfl, hrow, ?_⟩
    have h9 := (hO.put (.deferred none)).tail.tail
    have h10 : Owned w0 _ (rq ++ (rd ++ (polB g gf gd gm P o ++ (rf ++ F)))) := h9.sub ((List.Sublist.refl rq).append (List.sublist_append_right [lbox (B + 1) (.pointer (some ⟨gd, 0, none⟩)) 53, lbox (B + 1 + 1) (.int .i64 x) 3] (rd ++ (polB g gf gd gm P o ++ (rf ++ F)))))
    exact h10.perm (List.Perm.append_left rq (perm3 (polB g gf gd gm P o) rf rd F).symm)
  case stop =>
    rintro D c pre W q hpre hF hO
    exact hF.elim
end
end Go.Proofs.Ytnhdjpeadhcajaa
namespace Go.Proofs.Ytnhdjpeadhcajaa
open Go.RowKit Go.Sep DqPure
set_option maxRecDepth 100000
def newC (cap : Int) : Int := min (max 0 cap) 4611686018427387903
def newN (cap : Int) : Int := min (max 1 (newC cap)) 65536
def PSt.new (cap seed : Int) : PSt := ⟨newC cap, 10 * newN cap, seed, wordN (newN cap), FSt.new (newN cap), [], [], [], fun _ => none, ofW (newC cap), 0, 0, 0, firstN (newC cap)⟩
section
variable {g : Nat} {F : Sep.Own} {w0 w : World}
theorem newC_in (cap : Int) : 0 ≤ newC cap ∧ newC cap ≤ 4611686018427387903 := by unfold newC; omega
theorem newN_in (cap : Int) : 1 ≤ newN cap ∧ newN cap ≤ 65536 := by unfold newN; omega
theorem new_inv (cap seed : Int) : PolInv 0 0 (PSt.new cap seed) := by
  have h1 := newC_in cap
  have h2 := newN_in cap
  refine ⟨h1, ⟨?_, ?_⟩, ?_, Nat.le_refl _, Nat.le_refl _, fun _ _ => rfl⟩
  · show 10 ≤ 10 * newN cap; omega
  · show 10 * newN cap ≤ 655360; omega
  · show lo (newC cap) ≤ ofW (newC cap) ∧ ofW (newC cap) ≤ hi (newC cap)
    have e : ofC (newC cap) = newC cap := by unfold ofC cl; omega
    unfold ofW
    rw [e]
    unfold cl lo hi
    split <;> omega
theorem new_shut {P : PSt} {gf gd q : Nat} {rf rd : Sep.Own} (hP : PolInv 0 0 P) (hf : FilterAt gf P.sd P.wd P.fl rf) (hd : DqAt gd (rowsN 3) 0 (fun _ => []) rd) (hO : Owned w0 w ((q, .map #[] 0) :: (rd ++ (rf ++ F))))
    (ha : P.a = [] := by rfl) (hb : P.b = [] := by rfl) (hc : P.c = [] := by rfl) (hk : P.ks = (fun _ => none) := by rfl) {C : Array Value} (hC : C = polC gf gd q P := by rfl) : Stands w0 F w.heap.size 0 P (w.alloc (.cells C 59)) := by
  subst hC
  have h2 := hO.alloc (.cells (polC gf gd q P) 59)
  have hd2 : DqAt gd 3 0 P.st rd := DqAt.congr (show DqAt gd 3 0 (fun _ => []) rd from hd) (fun i hi => by
    unfold PSt.st
    rw [ha, hb, hc]
    rcases lt3 hi with rfl | rfl | rfl <;> rfl)
  exact PolIn.shut (o := .map #[] 0) (gm := q) ⟨hf, hd2, by rw [hk]; exact kmap_empty, hP⟩ (h2.perm (by
    show ([(w.heap.size, Obj.cells (polC gf gd q P) 59 (0, 0)), (q, .map #[] 0)] ++ (rd ++ (rf ++ F))).Perm ([(w.heap.size, Obj.cells (polC gf gd q P) 59 (0, 0)), (q, .map #[] 0)] ++ (rf ++ (rd ++ F)))
    exact List.Perm.append_left _ (perm2 rd rf F)))
set_option maxHeartbeats 3200000 in
theorem p_new (cap seed : Int) (hO : Owned w0 w F) :
    Calls Try.prog 10 #[.int .i64 cap, .int .i64 seed] w fun e w' => ∃ g, e = .returned (.pointer (some ⟨g, 0, none⟩)) ∧ Stands w0 F g 0 (PSt.new cap seed) w' := by
  have hf := fun (W : World) (G : Sep.Own) (hW : Owned w0 W G) => f_new (newN cap) seed hW
  have hd := fun (W : World) (G : Sep.Own) (hW : Owned w0 W G) => dq_new 3 hW
  have hq := of_calls (newC cap)
  have hc := new_calls (newC cap)
  have hC := newC_in cap
  have hN := newN_in cap
  have e : ofC (newC cap) = newC cap := by unfold ofC cl; omega
  unfold ofQ quotaC at hq
  unfold climbC at hc
  rw [e] at hq
  have hcC : newC cap = min (max 0 cap) 4611686018427387903 := rfl
  have hcN : newN cap = min (max 1 (newC cap)) 65536 := rfl
  have HF := Lib.hid hf
  have HD := Lib.hid hd
  have HQ := Lib.hid (fun W => hq W)
  have HCL := Lib.hid (fun W => hc W)
  have HO := Lib.hid hO
  have hP := new_inv cap seed
  unfold PSt.new at hP ⊢
  have HP := Lib.hid hP
  clear hf hd hq hc hO e hP
  generalize newN cap = n at *
  generalize newC cap = c at *
  have hcase : (cap < 0 ∧ c = 0 ∧ n = 1) ∨ (cap = 0 ∧ c = 0 ∧ n = 1) ∨ (cap = 1 ∧ c = 1 ∧ n = 1) ∨ ((2 ≤ cap ∧ cap ≤ 65536) ∧ c = cap ∧ n = cap) ∨ ((65536 < cap ∧ cap ≤ 4611686018427387903) ∧ c = cap ∧ n = 65536) ∨ (4611686018427387903 < cap ∧ c = 4611686018427387903 ∧ n = 65536) := by omega
  clear hcC hcN hC hN
  rcases hcase with ⟨h1, rfl, rfl⟩ | ⟨rfl, rfl, rfl⟩ | ⟨rfl, rfl, rfl⟩ | ⟨h1, rfl, rfl⟩ | ⟨h1, rfl, rfl⟩ | ⟨h1, rfl, rfl⟩
  · go_enter Try.func10, Try.ntmps10
    go_wp2_with fail
    go_at_call 21
    refine (HF.out _ _ HO.out).mono ?_
    rintro e w1 ⟨gf, rf, rfl, hfil, hO1⟩
    have HFIL := Lib.hid hfil
    have HO1 := Lib.hid hO1
    clear hfil hO1
    go_wp2_with fail
    go_at_call 22
    refine (HD.out _ _ HO1.out).mono ?_
    rintro e w2 ⟨gd, rd, rfl, hdq, hO2⟩
    have HDQ := Lib.hid hdq
    have HO2 := Lib.hid (hO2.alloc (.map #[] 0))
    have hmk := run_makeMap (P := Try.prog) 55 w2
    clear hdq hO2
    go_wp2_with fail
    go_at_call 23
    refine (HQ.out _).mono ?_
    rintro e w3 ⟨rfl, hb3⟩
    have HO3 := Lib.hid (HO2.out.under hb3)
    go_wp2_with fail
    go_at_call 24
    refine (HCL.out _).mono ?_
    rintro e w4 ⟨rfl, hb4⟩
    have HO4 := Lib.hid (HO3.out.under hb4)
    go_wp2_with fail
    go_ret
    exact ⟨_, rfl, new_shut HP.out HFIL.out HDQ.out HO4.out⟩
  · go_enter Try.func10, Try.ntmps10
    go_wp2_with fail
    go_at_call 21
    refine (HF.out _ _ HO.out).mono ?_
    rintro e w1 ⟨gf, rf, rfl, hfil, hO1⟩
    have HFIL := Lib.hid hfil
    have HO1 := Lib.hid hO1
    clear hfil hO1
    go_wp2_with fail
    go_at_call 22
    refine (HD.out _ _ HO1.out).mono ?_
    rintro e w2 ⟨gd, rd, rfl, hdq, hO2⟩
    have HDQ := Lib.hid hdq
    have HO2 := Lib.hid (hO2.alloc (.map #[] 0))
    have hmk := run_makeMap (P := Try.prog) 55 w2
    clear hdq hO2
    go_wp2_with fail
    go_at_call 23
    refine (HQ.out _).mono ?_
    rintro e w3 ⟨rfl, hb3⟩
    have HO3 := Lib.hid (HO2.out.under hb3)
    go_wp2_with fail
    go_at_call 24
    refine (HCL.out _).mono ?_
    rintro e w4 ⟨rfl, hb4⟩
    have HO4 := Lib.hid (HO3.out.under hb4)
    go_wp2_with fail
    go_ret
    exact ⟨_, rfl, new_shut HP.out HFIL.out HDQ.out HO4.out⟩
  · go_enter Try.func10, Try.ntmps10
    go_wp2_with fail
    go_at_call 21
    refine (HF.out _ _ HO.out).mono ?_
    rintro e w1 ⟨gf, rf, rfl, hfil, hO1⟩
    have HFIL := Lib.hid hfil
    have HO1 := Lib.hid hO1
    clear hfil hO1
    go_wp2_with fail
    go_at_call 22
    refine (HD.out _ _ HO1.out).mono ?_
    rintro e w2 ⟨gd, rd, rfl, hdq, hO2⟩
    have HDQ := Lib.hid hdq
    have HO2 := Lib.hid (hO2.alloc (.map #[] 0))
    have hmk := run_makeMap (P := Try.prog) 55 w2
    clear hdq hO2
    go_wp2_with fail
    go_at_call 23
    refine (HQ.out _).mono ?_
    rintro e w3 ⟨rfl, hb3⟩
    have HO3 := Lib.hid (HO2.out.under hb3)
    go_wp2_with fail
    go_at_call 24
    refine (HCL.out _).mono ?_
    rintro e w4 ⟨rfl, hb4⟩
    have HO4 := Lib.hid (HO3.out.under hb4)
    go_wp2_with fail
    go_ret
    exact ⟨_, rfl, new_shut HP.out HFIL.out HDQ.out HO4.out⟩
  · obtain ⟨h2, h3⟩ := h1
    go_enter Try.func10, Try.ntmps10
    go_wp2_with fail
    go_at_call 21
    refine (HF.out _ _ HO.out).mono ?_
    rintro e w1 ⟨gf, rf, rfl, hfil, hO1⟩
    have HFIL := Lib.hid hfil
    have HO1 := Lib.hid hO1
    clear hfil hO1
    go_wp2_with fail
    go_at_call 22
    refine (HD.out _ _ HO1.out).mono ?_
    rintro e w2 ⟨gd, rd, rfl, hdq, hO2⟩
    have HDQ := Lib.hid hdq
    have HO2 := Lib.hid (hO2.alloc (.map #[] 0))
    have hmk := run_makeMap (P := Try.prog) 55 w2
    clear hdq hO2
    go_wp2_with fail
    go_at_call 23
    refine (HQ.out _).mono ?_
    rintro e w3 ⟨rfl, hb3⟩
    have HO3 := Lib.hid (HO2.out.under hb3)
    go_wp2_with fail
    go_at_call 24
    refine (HCL.out _).mono ?_
    rintro e w4 ⟨rfl, hb4⟩
    have HO4 := Lib.hid (HO3.out.under hb4)
    go_wp2_with fail
    go_ret
    exact ⟨_, rfl, new_shut HP.out HFIL.out HDQ.out HO4.out⟩
  · obtain ⟨h2, h3⟩ := h1
    go_enter Try.func10, Try.ntmps10
    go_wp2_with fail
    go_at_call 21
    refine (HF.out _ _ HO.out).mono ?_
    rintro e w1 ⟨gf, rf, rfl, hfil, hO1⟩
    have HFIL := Lib.hid hfil
    have HO1 := Lib.hid hO1
    clear hfil hO1
    go_wp2_with fail
    go_at_call 22
    refine (HD.out _ _ HO1.out).mono ?_
    rintro e w2 ⟨gd, rd, rfl, hdq, hO2⟩
    have HDQ := Lib.hid hdq
    have HO2 := Lib.hid (hO2.alloc (.map #[] 0))
    have hmk := run_makeMap (P := Try.prog) 55 w2
    clear hdq hO2
    go_wp2_with fail
    go_at_call 23
    refine (HQ.out _).mono ?_
    rintro e w3 ⟨rfl, hb3⟩
    have HO3 := Lib.hid (HO2.out.under hb3)
    go_wp2_with fail
    go_at_call 24
    refine (HCL.out _).mono ?_
    rintro e w4 ⟨rfl, hb4⟩
    have HO4 := Lib.hid (HO3.out.under hb4)
    go_wp2_with fail
    go_ret
    exact ⟨_, rfl, new_shut HP.out HFIL.out HDQ.out HO4.out⟩
  · go_enter Try.func10, Try.ntmps10
    go_wp2_with fail
    go_at_call 21
    refine (HF.out _ _ HO.out).mono ?_
    rintro e w1 ⟨gf, rf, rfl, hfil, hO1⟩
    have HFIL := Lib.hid hfil
    have HO1 := Lib.hid hO1
    clear hfil hO1
    go_wp2_with fail
    go_at_call 22
    refine (HD.out _ _ HO1.out).mono ?_
    rintro e w2 ⟨gd, rd, rfl, hdq, hO2⟩
    have HDQ := Lib.hid hdq
    have HO2 := Lib.hid (hO2.alloc (.map #[] 0))
    have hmk := run_makeMap (P := Try.prog) 55 w2
    clear hdq hO2
    go_wp2_with fail
    go_at_call 23
    refine (HQ.out _).mono ?_
    rintro e w3 ⟨rfl, hb3⟩
    have HO3 := Lib.hid (HO2.out.under hb3)
    go_wp2_with fail
    go_at_call 24
    refine (HCL.out _).mono ?_
    rintro e w4 ⟨rfl, hb4⟩
    have HO4 := Lib.hid (HO3.out.under hb4)
    go_wp2_with fail
    go_ret
    exact ⟨_, rfl, new_shut HP.out HFIL.out HDQ.out HO4.out⟩
end
end Go.Proofs.Ytnhdjpeadhcajaa
