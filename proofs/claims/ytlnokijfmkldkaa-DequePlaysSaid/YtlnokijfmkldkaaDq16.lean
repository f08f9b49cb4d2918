/- Layer 7: Row: the numbers of a row, up to some. -/
import Derived.Test.YtlnokijfmkldkaaDq15
namespace Go.Proofs.Ytlnokijfmkldkaa
open Go.RowKit Go.Sep DqPure Go.Shelf
attribute [local go_sem] Oper.semAt_some
theorem permC (K : Sep.Own) (b1 b2 : Nat × Obj) (rq T : Sep.Own) : (K ++ ((b1 :: b2 :: rq) ++ T)).Perm (rq ++ (b2 :: (b1 :: (K ++ T)))) :=
  (perm4 K [b1] [b2] rq T).trans (List.Perm.append_left rq ((perm3 K [b1] [b2] T).trans (List.Perm.append_left [b2] (perm2 K [b1] T))))
/-- the numbers of a row -/
def idsAt (m : Nat) (st : Nat → List (Int × Int)) (k : Int) : List Int := if 0 ≤ k ∧ k < (m : Int) then (st k.toNat).map (·.1) else []
section
variable {bx m n : Nat} {st : Nat → List (Int × Int)} {r F : Sep.Own} {w0 w : World}
theorem all_iter (hD : DqAt bx m n st r) (k : Int) (ba bb : Nat) :
    Iter Try.prog 41 #[.pointer (some ⟨ba, 0, none⟩), .pointer (some ⟨bb, 0, none⟩)] (fun x : Int => #[.int .i64 x]) w0
      (lbox ba (.pointer (some ⟨bx, 0, none⟩)) 24 :: lbox bb (.int .i64 k) 3 :: r) (idsAt m st k) := by
  obtain ⟨v, bm, q, L, S, nx, pv, li, id, wt, LW, LN, f, o, h, hst⟩ := hD
  unfold idsAt
  by_cases hk : 0 ≤ k ∧ k < (m : Int)
  · obtain ⟨j, rfl⟩ : ∃ j : Nat, k = (j : Int) := ⟨k.toNat, by omega⟩
    rw [if_pos hk, Int.toNat_natCast, hst j (by omega), List.map_map]
    exact all_iter_some h (by omega)
  · rw [if_neg hk]
    exact all_iter_none h hk
theorem idsAt_len (hD : DqAt bx m n st r) (k : Int) : (idsAt m st k).length ≤ n := by
  unfold idsAt
  by_cases hk : 0 ≤ k ∧ k < (m : Int)
  · rw [if_pos hk, List.length_map]
    exact hD.len (by omega)
  · rw [if_neg hk]
    exact Nat.zero_le _
set_option maxHeartbeats 3200000 in
set_option maxRecDepth 100000 in
theorem row_calls (hD : DqAt bx m n st r) (_hn : n ≤ 1000000) (k : Int) (M : Nat) (hM : 0 < M ∧ M ≤ 1000000) (hO : Owned w0 w (r ++ F)) :
    Calls Try.prog 18 #[.pointer (some ⟨bx, 0, none⟩), .int .i64 k, .int .i64 (M : Int)] w fun e w' => ∃ v rq, e = .returned v ∧ Row 3 1 v ((idsAt m st k).take M).length (ints ((idsAt m st k).take M)) rq ∧ Owned w0 w' (rq ++ (r ++ F)) := by
  have hlen := idsAt_len hD k
  have hiter := fun ba bb => all_iter (w0 := w0) hD k ba bb
  generalize idsAt m st k = xs at *
  refine (callsIn_wide (n := 9)).1 ?_
  refine callsIn_of_wp_marks Try.func18 rfl trivial ?_ rfl
  simp only [Try.ntmps18, List.size_toArray, List.length_cons, List.length_nil, Nat.reduceAdd, Nat.reduceSub, Array.replicate_succ, Array.replicate_zero, List.push_toArray, List.append_toArray, List.nil_append, List.cons_append]
  have hO1 := (hO.alloc2 (.cells #[.int .i64 (M : Int)] 3) (.cells #[.slice none 0 0] 22)).alloc2 (.cells #[.pointer (some ⟨bx, 0, none⟩)] 24) (.cells #[.int .i64 k] 3)
  gi_wp2_with (refine ⟨trivial, ?_⟩; gi_at_call 32; refine (callsIn_wide.2 (all_calls _ _ _)).mono ?_; rintro e w' ⟨rfl, rfl⟩)
  simp only [World.size_alloc] at hO1
  generalize hW0 : ((((w.alloc (.cells #[.int .i64 (M : Int)] 3)).alloc (.cells #[.slice none 0 0] 22)).alloc (.cells #[.pointer (some ⟨bx, 0, none⟩)] 24)).alloc (.cells #[.int .i64 k] 3)) = W0 at *
  clear hW0
  generalize w.heap.size = B at *
  have hO2 := hO1.perm (perm2 [lbox (B + 1 + 1) (.pointer (some ⟨bx, 0, none⟩)) 24, lbox (B + 1 + 1 + 1) (.int .i64 k) 3] [lbox B (.int .i64 (M : Int)) 3, lbox (B + 1) (.slice none 0 0) 22] (r ++ F))
  clear hO1 hO
  refine range_own (P := Try.prog) (w0 := w0) (gf := 41) (lb := #[.pointer (some ⟨B + 1 + 1, 0, none⟩), .pointer (some ⟨B + 1 + 1 + 1, 0, none⟩)]) rfl (enters_of Try.func41 (by kernel_rfl) rfl) (fun _ => rfl) (hiter (B + 1 + 1) (B + 1 + 1 + 1)) (N := F)
    (fun pre q => ∃ v rq, q = lbox B (.int .i64 (M : Int)) 3 :: lbox (B + 1) v 22 :: rq ∧ Row 3 1 v pre.length (ints pre) rq ∧ pre.length < M)
    (fun c pre q => c = .exit 0 ∧ ∃ v rq, q = lbox B (.int .i64 (M : Int)) 3 :: lbox (B + 1) v 22 :: rq ∧ Row 3 1 v pre.length (ints pre) rq ∧ pre.length = M) ⟨_, [], rfl, Row.nil _ _, hM.1⟩ hO2
    (fun x => { tmps := #[.pointer (some ⟨bx, 0, none⟩), .int .i64 k, .int .i64 (M : Int), undef, undef, .pointer (some ⟨B, 0, none⟩), .slice none 0 0, .pointer (some ⟨B + 1, 0, none⟩), .int .i64 x, .pointer (some ⟨bx, 0, none⟩), .int .i64 k, .func (.func 41) #[] #[.pointer (some ⟨B + 1 + 1, 0, none⟩), .pointer (some ⟨B + 1 + 1 + 1, 0, none⟩)], .int .i64 x, undef, undef, undef, undef, undef, undef, undef, undef, undef], defers := [] })
    ?assign ?body ?done ?stop
  case assign =>
    intro l2 x W K hK
    gi_wp2
    exact hK
  case body =>
    rintro l2 pre x post hx K W q ⟨v, rq, rfl, hrow, hlt⟩ hO
    have hO1 := hO.perm (permC K _ _ rq _)
    have c1 : W.cell? ⟨B + 1, 0, none⟩ = some v := (Owned.cell (hO1.perm List.perm_middle) 0).trans rfl
    have hjn : pre.length + 1 ≤ n := by rw [hx, List.length_append, List.length_cons] at hlen; omega
    obtain ⟨j, hj⟩ : ∃ j, pre.length = j := ⟨_, rfl⟩
    rw [hj] at hrow hlt hjn
    have hm1 : j + 1 ≤ maxLen := by unfold maxLen; omega
    have hm2 : (j + 1) * 8 ≤ 140737488355328 := by omega
    have HX := Lib.hid (show (pre ++ [x]).length = j + 1 by rw [List.length_append, hj]; rfl)
    have HI := Lib.hid (ints_snoc pre x)
    clear hx hO hlen hiter hj
    gi_wp2_with (gi_at_builtin; refine append_one_in rfl (.tmp 13) (.tmp 15) 22 rfl 3 (.int .i64 0) 8 Try.underlying22 info_i7 rfl _ j _ rq _ _ rfl hrow hO1 rfl rfl hm1 hm2 ?_)
    intro v2 rq2 w9 hrow2 hO9
    obtain ⟨A2, c2, rfl⟩ := hrow2.slice
    have hO10 := hO9.perm List.perm_middle
    have hO11 := hO10.set 0 (.slice A2 (j + 1) c2)
    have c9 : w9.cell? ⟨B + 1, 0, none⟩ = some v := (Owned.cell hO10 0).trans rfl
    have f9 : w9.frozen? ⟨B + 1, 0, none⟩ = false := Owned.frozen hO10 0
    have c10 : (w9.setCell ⟨B + 1, 0, none⟩ (.slice A2 (j + 1) c2)).cell? ⟨B + 1, 0, none⟩ = some (.slice A2 (j + 1) c2) := (Owned.cell hO11 0).trans rfl
    have hO12 := hO11.perm (List.perm_middle (l₁ := rq2)).symm
    have c11 : (w9.setCell ⟨B + 1, 0, none⟩ (.slice A2 (j + 1) c2)).cell? ⟨B, 0, none⟩ = some (.int .i64 (M : Int)) := by
      have h1 := hO12.perm (permC K (lbox B (.int .i64 (M : Int)) 3) (lbox (B + 1) (.slice A2 (j + 1) c2) 22) rq2 _).symm
      exact (Owned.cell (h1.perm List.perm_middle) 0).trans rfl
    have hE := Lib.hid (hO12.perm (permC K (lbox B (.int .i64 (M : Int)) 3) (lbox (B + 1) (.slice A2 (j + 1) c2) 22) rq2 _).symm)
    have HROW := Lib.hid hrow2
    clear hO12 hO11 hO10 hO9 hrow2 hrow hO1 c1
    by_cases hge : M ≤ j + 1
    · have g1 : decide ((M : Int) ≤ ((j + 1 : Nat) : Int)) = true := by simp; omega
      have g2 : decide ((M : Int) ≤ (j : Int) + 1) = true := by simp; omega
      gi_wp2
      exact ⟨_, ⟨rfl, _, rq2, rfl, by rw [HX.out, HI.out]; exact HROW.out, by rw [HX.out]; omega⟩, hE.out⟩
    · have g1 : decide ((M : Int) ≤ ((j + 1 : Nat) : Int)) = false := by simp; omega
      have g2 : decide ((M : Int) ≤ (j : Int) + 1) = false := by simp; omega
      gi_wp2
      exact ⟨_, ⟨_, rq2, rfl, by rw [HX.out, HI.out]; exact HROW.out, by rw [HX.out]; omega⟩, hE.out⟩
  case done =>
    rintro D W q ⟨v, rq, rfl, hrow, hlt⟩ hO
    have hO1 := hO.perm (permC [(D, .deferred (some []))] _ _ rq _)
    have c1 : W.cell? ⟨B + 1, 0, none⟩ = some v := (Owned.cell (hO1.perm List.perm_middle) 0).trans rfl
    gi_wp2
    refine ⟨by simp, .inl ⟨_, _, rfl, run_takeDeferred hO.head, ?_⟩⟩
    refine ⟨_, results_tmp rfl _ _ _, v, rq, rfl, ?_, ?_⟩
    · rw [List.take_of_length_le (Nat.le_of_lt hlt)]
      exact hrow
    · exact (hO.put (.deferred none)).tail.tail.tail.sub ((List.Sublist.refl rq).append (((List.sublist_append_right [lbox (B + 1 + 1) (.pointer (some ⟨bx, 0, none⟩)) 24, lbox (B + 1 + 1 + 1) (.int .i64 k) 3] (r ++ F)))))
  case stop =>
    rintro D c pre W q hpre ⟨rfl, v, rq, rfl, hrow, hlt⟩ hO
    have hO1 := hO.perm (permC [(D, .deferred (some []))] _ _ rq _)
    have c1 : W.cell? ⟨B + 1, 0, none⟩ = some v := (Owned.cell (hO1.perm List.perm_middle) 0).trans rfl
    gi_wp2
    obtain ⟨t, rfl⟩ := hpre
    refine ⟨by simp, .inl ⟨_, _, rfl, run_takeDeferred hO.head, ?_⟩⟩
    refine ⟨_, results_tmp rfl _ _ _, v, rq, rfl, ?_, ?_⟩
    · rw [List.take_left' hlt]
      exact hrow
    · exact (hO.put (.deferred none)).tail.tail.tail.sub ((List.Sublist.refl rq).append (((List.sublist_append_right [lbox (B + 1 + 1) (.pointer (some ⟨bx, 0, none⟩)) 24, lbox (B + 1 + 1 + 1) (.int .i64 k) 3] (r ++ F)))))
end
end Go.Proofs.Ytlnokijfmkldkaa
