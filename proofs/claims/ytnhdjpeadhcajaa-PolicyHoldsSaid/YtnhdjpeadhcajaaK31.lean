/- Merged texts: Layer 7: All: the iterator over a row's numbers. Layer 7: Row: the numbers of a row, up to some. -/
import Derived.Test.YtnhdjpeadhcajaaK30
namespace Go.Proofs.Ytnhdjpeadhcajaa
open Go.RowKit Go.Sep DqPure Go.Shelf
set_option maxRecDepth 100000
attribute [local go_sem] Oper.semAt_some
section
variable {bx m n bm : Nat} {v : Value} {q r F : Sep.Own} {L : Nat → Nat} {S : Nat → List Nat} {nx pv li : Nat → Nat} {id wt LW : Nat → Int} {LN : Nat → Nat} {f : Int → Nat} {o : Obj} {w0 w : World}
theorem permA (a b : Nat × Obj) (q C r N : Sep.Own) : (a :: b :: (q ++ (C ++ (r ++ N)))).Perm (q ++ ((a :: r) ++ (b :: (C ++ N)))) :=
  (perm3 [a] [b] q (C ++ (r ++ N))).trans (List.Perm.append_left q (List.Perm.append_left [a] (perm3 [b] C r N)))
theorem permB (K : Sep.Own) (a b : Nat × Obj) (q C r N : Sep.Own) : ((K ++ [a, b]) ++ (q ++ (C ++ (r ++ N)))).Perm (K ++ (q ++ ((a :: r) ++ (b :: (C ++ N))))) := by
  rw [List.append_assoc]
  exact List.Perm.append_left K (permA a b q C r N)
theorem elements_calls (p : Option Addr) (w : World) : Calls Try.prog 60 #[.pointer p] w fun e w' => e = .returned (.func (.func 77) #[] #[.pointer (some ⟨w.heap.size, 0, none⟩)]) ∧ w' = w.alloc (.cells #[.pointer p] 85) := by
  go_enter Try.func60, Try.ntmps60
  go_wp2_with fail
  go_ret
  exact ⟨rfl, rfl⟩
theorem all_calls (p : Option Addr) (k : Int) (w : World) : Calls Try.prog 33 #[.pointer p, .int .i64 k] w fun e w' => e = .returned (.func (.func 59) #[] #[.pointer (some ⟨w.heap.size, 0, none⟩), .pointer (some ⟨w.heap.size + 1, 0, none⟩)]) ∧ w' = (w.alloc (.cells #[.pointer p] 53)).alloc (.cells #[.int .i64 k] 3) := by
  go_enter Try.func33, Try.ntmps33
  go_wp2_with fail
  go_ret
  exact ⟨rfl, rfl⟩
set_option maxHeartbeats 3200000 in
set_option maxRecDepth 100000 in
theorem all_iter_some {k ba bb : Nat} (h : DqIn bx m n v bm q L S nx pv li id wt LW LN f o r) (hk : k < m) :
    Iter Try.prog 59 #[.pointer (some ⟨ba, 0, none⟩), .pointer (some ⟨bb, 0, none⟩)] (fun x : Int => #[.int .i64 x]) w0
      (lbox ba (.pointer (some ⟨bx, 0, none⟩)) 53 :: lbox bb (.int .i64 (k : Int)) 3 :: r) ((S k).map id) := by
  intro l N Q Qx W q hY h0 hO
  have hc : ∀ W q, Owned w0 W (q ++ ((lbox ba (.pointer (some ⟨bx, 0, none⟩)) 53 :: lbox bb (.int .i64 (k : Int)) 3 :: r) ++ N)) → W.cell? ⟨ba, 0, none⟩ = some (.pointer (some ⟨bx, 0, none⟩)) ∧ W.cell? ⟨bb, 0, none⟩ = some (.int .i64 (k : Int)) := fun W q hO => by
    refine ⟨?_, ?_⟩
    · exact (Owned.cell (hO.perm List.perm_middle) 0).trans rfl
    · have h1 : Owned w0 W ((q ++ [lbox ba (.pointer (some ⟨bx, 0, none⟩)) 53]) ++ (lbox bb (.int .i64 (k : Int)) 3 :: (r ++ N))) := by rw [List.append_assoc]; exact hO
      exact (Owned.cell (h1.perm List.perm_middle) 0).trans rfl
  have hyb := hO.alloc (.cells #[.func (.yield l) #[] #[]] 96)
  have hp : ∀ (q T : Sep.Own) (a b : Nat × Obj), (q ++ ((a :: b :: r) ++ T)).Perm (r ++ (q ++ (a :: b :: T))) := fun q T a b => by
    have e1 : (a :: b :: r) ++ T = [a, b] ++ (r ++ T) := rfl
    rw [e1]
    exact perm3 q [a, b] r T
  refine callsIn_of_wp_marks Try.func59 rfl trivial ?_ rfl
  simp only [Try.ntmps59, List.size_toArray, List.length_cons, List.length_nil, Nat.reduceAdd, Nat.reduceSub, Array.replicate_succ, Array.replicate_zero, List.push_toArray, List.append_toArray, List.nil_append, List.cons_append]
  obtain ⟨c1, c2⟩ := hc _ _ hO
  have d1 := hc (W.alloc (.cells #[.func (.yield l) #[] #[]] 96)) q (hO.alloc_ _)
  obtain ⟨d1, d2⟩ := d1
  have HR := dq_row_some h hk (hyb.perm ((List.Perm.cons _ (hp q N _ _)).trans List.perm_middle.symm))
  gi_wp2_with (first | (refine ⟨trivial, ?_⟩; gi_at_call 52; refine (callsIn_wide.2 HR).mono ?_; rintro e w' ⟨rfl, rfl⟩) | (refine ⟨trivial, ?_⟩; gi_at_call 60; refine (callsIn_wide.2 (elements_calls _ _)).mono ?_; rintro e w' ⟨rfl, rfl⟩))
  clear HR c1 c2 d1 d2
  have hO2 := hyb.alloc (.cells #[.pointer (some ⟨L k, 0, none⟩)] 85)
  have hO3 := hO2.perm (permA _ _ q [lbox ba (.pointer (some ⟨bx, 0, none⟩)) 53, lbox bb (.int .i64 (k : Int)) 3] r N)
  clear hO2 hyb
  generalize hW2 : (W.alloc (Obj.cells #[.func (.yield l) #[] #[]] 96)).alloc (.cells #[.pointer (some ⟨L k, 0, none⟩)] 85) = W2 at hO3 ⊢
  rw [show (W.alloc (Obj.cells #[.func (.yield l) #[] #[]] 96)).heap.size = W.heap.size + 1 by simp] at hO3
  generalize W.heap.size = B at hO3 ⊢
  clear hW2
  refine range_own (P := Try.prog) (w0 := w0) (gf := 77) (lb := #[.pointer (some ⟨B + 1, 0, none⟩)]) rfl (enters_of Try.func77 (by kernel_rfl) rfl) (fun _ => rfl) (el_iter (bl := B + 1) h hk)
    (fun pre q => Q (pre.map id) q) (fun c pre q => c = .ret ∧ Qx (pre.map id) q) h0 hO3
    (fun b => { tmps := #[.func (.yield l) #[] #[], .pointer (some ⟨ba, 0, none⟩), .pointer (some ⟨bb, 0, none⟩), .pointer (some ⟨B, 0, none⟩), .pointer (some ⟨L k, 0, none⟩), .pointer (some ⟨b, 0, none⟩), .pointer (some ⟨bx, 0, none⟩), .int .i64 (k : Int), .pointer (some ⟨L k, 0, none⟩), .pointer (some ⟨L k, 0, none⟩), .bool false, .pointer (some ⟨L k, 0, none⟩), .func (.func 77) #[] #[.pointer (some ⟨B + 1, 0, none⟩)], .pointer (some ⟨b, 0, none⟩), undef, undef, undef, undef, undef, undef, undef], defers := [] })
    ?assign ?body ?done ?stop
  case assign =>
    intro l2 x W K hK
    gi_wp2
    exact hK
  case body =>
    intro l2 pre b post hs K W q hI hO
    have hs' : (S k).map id = pre.map id ++ id b :: post.map id := by rw [hs]; simp
    have hbS : b ∈ S k := by rw [hs]; simp
    have hOb := hO.perm (permB K _ _ q [lbox ba (.pointer (some ⟨bx, 0, none⟩)) 53, lbox bb (.int .i64 (k : Int)) 3] r N).symm
    have hOr : Owned w0 W (r ++ (K ++ (q ++ (lbox (B + 1) (nptr (L k)) 85 :: (lbox B (.func (.yield l) #[] #[]) 96 :: ([lbox ba (.pointer (some ⟨bx, 0, none⟩)) 53, lbox bb (.int .i64 (k : Int)) 3] ++ N)))))) := hO.perm (perm4 K q [lbox (B + 1) (nptr (L k)) 85] r _)
    obtain ⟨e0, -⟩ := h.l.nodes.elc hOr ⟨k, hk, hbS⟩
    have hOy : Owned w0 W ((K ++ [lbox (B + 1) (nptr (L k)) 85]) ++ (lbox B (.func (.yield l) #[] #[]) 96 :: (q ++ ([lbox ba (.pointer (some ⟨bx, 0, none⟩)) 53, lbox bb (.int .i64 (k : Int)) 3] ++ (r ++ N))))) := by
      rw [List.append_assoc]
      rw [List.append_assoc] at hOb
      exact hOb
    have e1 : W.cell? ⟨B, 0, none⟩ = some (.func (.yield l) #[] #[]) := (Owned.cell (hOy.perm List.perm_middle) 0).trans rfl
    obtain ⟨fn, tmps, assign, body, hy, hR⟩ := hY _ _ _ hs' _ W.drew q hI hOb.drew
    have hR2 : RoundIn (Fence.wide.inRound l2) 8 Try.prog l fn tmps assign body W.drew fun e W' => ∃ c, e = .returned (.bool c) ∧ ∃ q', (if c = true then Q (pre.map id ++ [id b]) q' else Qx (pre.map id ++ [id b]) q') ∧
        Owned w0 W' ((K ++ [lbox (B + 1) (nptr (L k)) 85, lbox B (.func (.yield l) #[] #[]) 96]) ++ (q' ++ ([lbox ba (.pointer (some ⟨bx, 0, none⟩)) 53, lbox bb (.int .i64 (k : Int)) 3] ++ (r ++ N)))) := by
      refine (roundIn_any rfl hR).mono ?_
      rintro e W3 (⟨rfl, q3, hQ3, hO3⟩ | ⟨rfl, q3, hQ3, hO3⟩)
      · exact ⟨true, rfl, q3, hQ3, hO3⟩
      · exact ⟨false, rfl, q3, hQ3, hO3⟩
    have hmx : Try.prog.follows .mixedOrders = true := by kernel_rfl
    clear hOb hOr hOy hO hR hY
    gi_wp2
    gi_region_with_o (refine hR2.mono ?_; rintro e W3 ⟨c, rfl, q3, hQ3, hO3⟩)
    all_goals
      have hE := hO3.perm (permB K _ _ q3 [lbox ba (.pointer (some ⟨bx, 0, none⟩)) 53, lbox bb (.int .i64 (k : Int)) 3] r N)
      rw [show pre.map id ++ [id b] = (pre ++ [b]).map id by simp] at hQ3
      clear hO3 hR2
      cases c
      · gi_wp2
        exact ⟨q3, ⟨rfl, hQ3⟩, hE⟩
      · gi_wp2
        exact ⟨q3, hQ3, hE⟩
  case done =>
    intro D W q hI hO
    gi_wp2
    refine ⟨by simp, .inl ⟨_, _, rfl, run_takeDeferred hO.head, ?_⟩⟩
    refine ⟨_, results_none rfl _ _ _, ⟨_, rfl⟩, .inl ⟨q, hI, ?_⟩⟩
    have h1 := (hO.put (.deferred none)).tail.perm (permB [] _ _ q [lbox ba (.pointer (some ⟨bx, 0, none⟩)) 53, lbox bb (.int .i64 (k : Int)) 3] r N).symm
    exact h1.tail.tail
  case stop =>
    rintro D c pre W q hpre ⟨rfl, hI⟩ hO
    gi_wp2
    refine ⟨by simp, .inl ⟨_, _, rfl, run_takeDeferred hO.head, ?_⟩⟩
    refine ⟨_, results_none rfl _ _ _, ⟨_, rfl⟩, .inr ⟨pre.map id, q, ?_, hI, ?_⟩⟩
    · obtain ⟨t, ht⟩ := hpre
      exact ⟨t.map id, by rw [← List.map_append, ht]⟩
    · have h1 := (hO.put (.deferred none)).tail.perm (permB [] _ _ q [lbox ba (.pointer (some ⟨bx, 0, none⟩)) 53, lbox bb (.int .i64 (k : Int)) 3] r N).symm
      exact h1.tail.tail
set_option maxHeartbeats 1600000 in
set_option maxRecDepth 100000 in
theorem all_iter_none {k : Int} {ba bb : Nat} (h : DqIn bx m n v bm q L S nx pv li id wt LW LN f o r) (hk : ¬ (0 ≤ k ∧ k < (m : Int))) :
    Iter Try.prog 59 #[.pointer (some ⟨ba, 0, none⟩), .pointer (some ⟨bb, 0, none⟩)] (fun x : Int => #[.int .i64 x]) w0
      (lbox ba (.pointer (some ⟨bx, 0, none⟩)) 53 :: lbox bb (.int .i64 k) 3 :: r) [] := by
  intro l N Q Qx W q hY h0 hO
  have hyb := hO.alloc_ (.cells #[.func (.yield l) #[] #[]] 96)
  have hp : ∀ (q T : Sep.Own) (a b : Nat × Obj), (q ++ ((a :: b :: r) ++ T)).Perm (r ++ (q ++ (a :: b :: T))) := fun q T a b => by
    have e1 : (a :: b :: r) ++ T = [a, b] ++ (r ++ T) := rfl
    rw [e1]
    exact perm3 q [a, b] r T
  have d1 : (W.alloc (.cells #[.func (.yield l) #[] #[]] 96)).cell? ⟨ba, 0, none⟩ = some (.pointer (some ⟨bx, 0, none⟩)) := (Owned.cell (hyb.perm List.perm_middle) 0).trans rfl
  have d2 : (W.alloc (.cells #[.func (.yield l) #[] #[]] 96)).cell? ⟨bb, 0, none⟩ = some (.int .i64 k) := by
    have h1 : Owned w0 (W.alloc (.cells #[.func (.yield l) #[] #[]] 96)) ((q ++ [lbox ba (.pointer (some ⟨bx, 0, none⟩)) 53]) ++ (lbox bb (.int .i64 k) 3 :: (r ++ N))) := by rw [List.append_assoc]; exact hyb
    exact (Owned.cell (h1.perm List.perm_middle) 0).trans rfl
  have HR := dq_row_none h (bad_row hk) (hyb.perm (hp q N _ _))
  refine callsIn_of_wp Try.func59 rfl trivial ?_ rfl
  simp only [Try.ntmps59, List.size_toArray, List.length_cons, List.length_nil, Nat.reduceAdd, Nat.reduceSub, Array.replicate_succ, Array.replicate_zero, List.push_toArray, List.append_toArray, List.nil_append, List.cons_append]
  gi_wp2_with (first | (refine ⟨trivial, ?_⟩; gi_at_call 52; refine (callsIn_wide.2 HR).mono ?_; rintro e w' ⟨rfl, rfl⟩))
  refine bodyPost_ret (results_none rfl _ _ _) rfl ?_
  exact ⟨⟨_, rfl⟩, .inl ⟨q, h0, hyb⟩⟩
end
end Go.Proofs.Ytnhdjpeadhcajaa
namespace Go.Proofs.Ytnhdjpeadhcajaa
open Go.RowKit Go.Sep DqPure Go.Shelf
set_option maxRecDepth 100000
attribute [local go_sem] Oper.semAt_some
theorem permC (K : Sep.Own) (b1 b2 : Nat × Obj) (rq T : Sep.Own) : (K ++ ((b1 :: b2 :: rq) ++ T)).Perm (rq ++ (b2 :: (b1 :: (K ++ T)))) :=
  (perm4 K [b1] [b2] rq T).trans (List.Perm.append_left rq ((perm3 K [b1] [b2] T).trans (List.Perm.append_left [b2] (perm2 K [b1] T))))
/-- the numbers of a row -/
def idsAt (m : Nat) (st : Nat → List (Int × Int)) (k : Int) : List Int := if 0 ≤ k ∧ k < (m : Int) then (st k.toNat).map (·.1) else []
section
variable {bx m n : Nat} {st : Nat → List (Int × Int)} {r F : Sep.Own} {w0 w : World}
theorem all_iter (hD : DqAt bx m n st r) (k : Int) (ba bb : Nat) :
    Iter Try.prog 59 #[.pointer (some ⟨ba, 0, none⟩), .pointer (some ⟨bb, 0, none⟩)] (fun x : Int => #[.int .i64 x]) w0
      (lbox ba (.pointer (some ⟨bx, 0, none⟩)) 53 :: lbox bb (.int .i64 k) 3 :: r) (idsAt m st k) := by
  obtain ⟨v, bm, q, L, S, nx, pv, li, id, wt, LW, LN, f, o, h, hst⟩ := hD
  unfold idsAt
  by_cases hk : 0 ≤ k ∧ k < (m : Int)
  · obtain ⟨j, rfl⟩ : ∃ j : Nat, k = (j : Int) := ⟨k.toNat, by omega⟩
    rw [if_pos hk, Int.toNat_natCast, hst j (by omega), List.map_map]
    exact all_iter_some h (by omega)
  · rw [if_neg hk]
    exact all_iter_none h hk
theorem idsAt_len (hD : DqAt bx m n st r) (k : Int) : (idsAt m st k).length ≤ n := by
  unfold idsAt
  by_cases hk : 0 ≤ k ∧ k < (m : Int)
  · rw [if_pos hk, List.length_map]
    exact hD.len (by omega)
  · rw [if_neg hk]
    exact Nat.zero_le _
end
end Go.Proofs.Ytnhdjpeadhcajaa
