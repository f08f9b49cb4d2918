/- Layer 6: All: its contract. -/
import Derived.Test.YtepjebmiegkpnaaArAll1
namespace Go.Proofs.Ytepjebmiegkpnaa
open Go.RowKit Go.Sep Go.Shelf
attribute [local go_sem] Oper.semAt_some
/-- what is held, by numbers -/
def heldOf : List (Nat × Sl) → List (Nat × Int × Int)
  | [] => []
  | x :: l => if x.2.h then (x.1, x.2.k, x.2.w) :: heldOf l else heldOf l
theorem heldOf_append : ∀ a b, heldOf (a ++ b) = heldOf a ++ heldOf b
  | [], _ => rfl
  | x :: a, b => by
    rw [List.cons_append, heldOf, heldOf, heldOf_append a b]
    split <;> rfl
def encN (x : Nat × Int × Int) : Array Value := #[.int .i64 (x.1 : Int), .agg #[.int .i64 x.2.1, .int .i64 x.2.2]]
theorem permD (y s : Nat × Obj) (q C : Sep.Own) (c : Nat × Obj) (N : Sep.Own) : ([y] ++ ([s] ++ (q ++ (C ++ ([c] ++ N))))).Perm (q ++ ([s] ++ ([c] ++ ([y] ++ (C ++ N))))) :=
  (perm3 [y] [s] q _).trans (List.Perm.append_left q ((perm2 [y] [s] _).trans (List.Perm.append_left [s] (perm3 [y] C [c] N))))
section
variable {sl : List Sl} {w0 w : World} {g most gone held : Nat} {r : Sep.Own}
theorem slicesAll_calls (A : Option Addr) (n c : Nat) (w : World) : Calls Try.prog 27 #[.slice A n c] w fun e w' => e = .returned (.func (.func 28) #[] #[.pointer (some ⟨w.heap.size, 0, none⟩)]) ∧ w' = w.alloc (.cells #[.slice A n c] 52) := by
  go_enter Try.func27, Try.ntmps27
  go_wp2_with fail
  go_ret
  exact ⟨rfl, rfl⟩
theorem arall_calls (p : Option Addr) (w : World) : Calls Try.prog 25 #[.pointer p] w fun e w' => e = .returned (.func (.func 26) #[] #[.pointer (some ⟨w.heap.size, 0, none⟩)]) ∧ w' = w.alloc (.cells #[.pointer p] 24) := by
  go_enter Try.func25, Try.ntmps25
  go_wp2_with fail
  go_ret
  exact ⟨rfl, rfl⟩
set_option maxHeartbeats 3200000 in
set_option maxRecDepth 100000 in
theorem arall_iter {ba : Nat} (hr : ArenaC g most sl gone held r) :
    Iter Try.prog 26 #[.pointer (some ⟨ba, 0, none⟩)] encN w0 (lbox ba (.pointer (some ⟨g, 0, none⟩)) 24 :: r) (heldOf (enumS 0 sl)) := by
  obtain ⟨b, cap, cur, rfl, h1, h2, h3, h4, h5, h6⟩ := hr
  intro l N Q Qx W q hY h0 hO
  obtain ⟨n, hn⟩ : ∃ n, sl.length = n := ⟨_, rfl⟩
  rw [hn] at hO h1 h4 h5 h6 hY ⊢
  have hyb := hO.alloc (.cells #[.func (.yield l) #[] #[]] 63)
  have hO2 := hyb.alloc (.cells #[.slice (some ⟨b, 0, none⟩) n cap] 52)
  have d1 : (W.alloc (.cells #[.func (.yield l) #[] #[]] 63)).cell? ⟨ba, 0, none⟩ = some (.pointer (some ⟨g, 0, none⟩)) := (Owned.cell ((hO.alloc_ _).perm List.perm_middle) 0).trans rfl
  have d2 : (W.alloc (.cells #[.func (.yield l) #[] #[]] 63)).cell? ⟨g, 1, none⟩ = some (.slice (some ⟨b, 0, none⟩) n cap) := by
    have h1 : Owned w0 (W.alloc (.cells #[.func (.yield l) #[] #[]] 63)) ((q ++ [lbox ba (.pointer (some ⟨g, 0, none⟩)) 24]) ++ ((g, .cells #[.int .i64 most, .slice (some ⟨b, 0, none⟩) n cap, .int .i64 gone, .int .i64 held] 54 (0, 0)) :: ((b, .cells cur 56 (0, 0)) :: N))) := by rw [List.append_assoc]; exact hO.alloc_ _
    exact (Owned.cell (h1.perm List.perm_middle) 1).trans rfl
  refine callsIn_of_wp_marks Try.func26 rfl trivial ?_ rfl
  simp only [Try.ntmps26, List.size_toArray, List.length_cons, List.length_nil, Nat.reduceAdd, Nat.reduceSub, Array.replicate_succ, Array.replicate_zero, List.push_toArray, List.append_toArray, List.nil_append, List.cons_append]
  gi_wp2_with (refine ⟨trivial, ?_⟩; gi_at_call 27; refine (callsIn_wide.2 (slicesAll_calls _ _ _ _)).mono ?_; rintro e w' ⟨rfl, rfl⟩)
  clear d1 d2
  simp only [World.size_alloc] at hO2
  generalize hW2 : (W.alloc (Obj.cells #[.func (.yield l) #[] #[]] 63)).alloc (.cells #[.slice (some ⟨b, 0, none⟩) n cap] 52) = W2 at hO2 ⊢
  generalize W.heap.size = B at hO2 ⊢
  clear hW2 hyb hO
  have hO3 : Owned w0 W2 (q ++ ((lbox (B + 1) (.slice (some ⟨b, 0, none⟩) n cap) 52 :: (b, .cells cur 56 (0, 0)) :: []) ++ (lbox B (.func (.yield l) #[] #[]) 63 :: ([lbox ba (.pointer (some ⟨g, 0, none⟩)) 24, (g, .cells #[.int .i64 most, .slice (some ⟨b, 0, none⟩) n cap, .int .i64 gone, .int .i64 held] 54 (0, 0))] ++ N)))) :=
    hO2.perm ((perm2 [_] [_] _).trans (permD (lbox B (.func (.yield l) #[] #[]) 63) (lbox (B + 1) (.slice (some ⟨b, 0, none⟩) n cap) 52) q [lbox ba (.pointer (some ⟨g, 0, none⟩)) 24, (g, .cells #[.int .i64 most, .slice (some ⟨b, 0, none⟩) n cap, .int .i64 gone, .int .i64 held] 54 (0, 0))] (b, .cells cur 56 (0, 0)) N))
  clear hO2
  refine range_own2 (P := Try.prog) (w0 := w0) (gf := 28) (lb := #[.pointer (some ⟨B + 1, 0, none⟩)]) rfl (enters_of Try.func28 (by kernel_rfl) rfl) (fun _ => rfl) (slices_iter (bs := B + 1) (T := []) h4 hn h1 h6)
    (fun pre q => Q (heldOf pre) q) (fun c pre q => c = .ret ∧ Qx (heldOf pre) q) h0 hO3
    (fun x K' a' => ∃ Bx, K' = [(Bx, slotO x.2)] ∧ a' = { tmps := #[.func (.yield l) #[] #[], .pointer (some ⟨ba, 0, none⟩), .pointer (some ⟨B, 0, none⟩), .int .i64 (x.1 : Int), .pointer (some ⟨Bx, 0, none⟩), .pointer (some ⟨g, 0, none⟩), .pointer (some ⟨g, 0, none⟩), .pointer (some ⟨g, 1, none⟩), .slice (some ⟨b, 0, none⟩) n cap, .func (.func 28) #[] #[.pointer (some ⟨B + 1, 0, none⟩)], .int .i64 (x.1 : Int), slotV x.2, undef, undef, undef, undef, undef, undef, undef, undef, undef, undef], defers := [] })
    ?assign ?body ?done ?stop
  case assign =>
    rintro l2 ⟨i, sk, sw, sh, snx⟩ W T hT
    have hT2 := hT.alloc (slotO ⟨sk, sw, sh, snx⟩)
    unfold slotO at hT2
    dsimp only at hT2
    unfold encS
    dsimp only
    gi_wp2
    exact ⟨[(W.heap.size, slotO ⟨sk, sw, sh, snx⟩)], ⟨W.heap.size, rfl, rfl⟩, hT2⟩
  case body =>
    rintro l2 pre ⟨i, sk, sw, sh, snx⟩ post hs K' a' ⟨Bx, rfl, rfl⟩ K W q hI hO
    have c0 : W.cell? ⟨Bx, 0, none⟩ = some (.int .i64 sk) := (Owned.cell hO 0).trans rfl
    have c1 : W.cell? ⟨Bx, 1, none⟩ = some (.int .i64 sw) := (Owned.cell hO 1).trans rfl
    have c2 : W.cell? ⟨Bx, 2, none⟩ = some (.bool sh) := (Owned.cell hO 2).trans rfl
    have hpm := fun q => permD (lbox B (.func (.yield l) #[] #[]) 63) (lbox (B + 1) (.slice (some ⟨b, 0, none⟩) n cap) 52) q [lbox ba (.pointer (some ⟨g, 0, none⟩)) 24, (g, .cells #[.int .i64 most, .slice (some ⟨b, 0, none⟩) n cap, .int .i64 gone, .int .i64 held] 54 (0, 0))] (b, .cells cur 56 (0, 0)) N
    have hOb := hO.perm (List.Perm.append_left [(Bx, slotO ⟨sk, sw, sh, snx⟩)] (List.Perm.append_left K (hpm q).symm))
    have hOc : Owned w0 W (([(Bx, slotO ⟨sk, sw, sh, snx⟩)] ++ (K ++ [lbox B (.func (.yield l) #[] #[]) 63, lbox (B + 1) (.slice (some ⟨b, 0, none⟩) n cap) 52])) ++ (q ++ ([lbox ba (.pointer (some ⟨g, 0, none⟩)) 24, (g, .cells #[.int .i64 most, .slice (some ⟨b, 0, none⟩) n cap, .int .i64 gone, .int .i64 held] 54 (0, 0))] ++ ([(b, .cells cur 56 (0, 0))] ++ N)))) := by
      rw [List.append_assoc, List.append_assoc]
      exact hOb
    have e1 : W.cell? ⟨B, 0, none⟩ = some (.func (.yield l) #[] #[]) := by
      have h9 : Owned w0 W (([(Bx, slotO ⟨sk, sw, sh, snx⟩)] ++ K) ++ (lbox B (.func (.yield l) #[] #[]) 63 :: ([lbox (B + 1) (.slice (some ⟨b, 0, none⟩) n cap) 52] ++ (q ++ ([lbox ba (.pointer (some ⟨g, 0, none⟩)) 24, (g, .cells #[.int .i64 most, .slice (some ⟨b, 0, none⟩) n cap, .int .i64 gone, .int .i64 held] 54 (0, 0))] ++ ([(b, .cells cur 56 (0, 0))] ++ N)))))) := by
        rw [List.append_assoc]
        exact hOb
      exact (Owned.cell (h9.perm List.perm_middle) 0).trans rfl
    have HE := Lib.hid (show ∀ W' q', Owned w0 W' (([(Bx, slotO ⟨sk, sw, sh, snx⟩)] ++ (K ++ [lbox B (.func (.yield l) #[] #[]) 63, lbox (B + 1) (.slice (some ⟨b, 0, none⟩) n cap) 52])) ++ (q' ++ ([lbox ba (.pointer (some ⟨g, 0, none⟩)) 24, (g, .cells #[.int .i64 most, .slice (some ⟨b, 0, none⟩) n cap, .int .i64 gone, .int .i64 held] 54 (0, 0))] ++ ([(b, .cells cur 56 (0, 0))] ++ N)))) →
        Owned w0 W' (K ++ (q' ++ ((lbox (B + 1) (.slice (some ⟨b, 0, none⟩) n cap) 52 :: (b, .cells cur 56 (0, 0)) :: []) ++ (lbox B (.func (.yield l) #[] #[]) 63 :: ([lbox ba (.pointer (some ⟨g, 0, none⟩)) 24, (g, .cells #[.int .i64 most, .slice (some ⟨b, 0, none⟩) n cap, .int .i64 gone, .int .i64 held] 54 (0, 0))] ++ N))))) from fun W' q' h => by
      rw [List.append_assoc, List.append_assoc] at h
      exact (h.perm (List.Perm.append_left [(Bx, slotO ⟨sk, sw, sh, snx⟩)] (List.Perm.append_left K (hpm q')))).tail)
    cases sh with
    | true =>
      have hs' : heldOf (enumS 0 sl) = heldOf pre ++ (i, sk, sw) :: heldOf post := by rw [hs, heldOf_append]; rfl
      obtain ⟨fn, tmps, assign, body, hy, hR⟩ := hY _ _ _ hs' _ W q hI hOc
      have hR2 : RoundIn (Fence.wide.inRound l2) 8 Try.prog l fn tmps assign body W fun e W' => ∃ c, e = .returned (.bool c) ∧ ∃ q', (if c = true then Q (heldOf pre ++ [(i, sk, sw)]) q' else Qx (heldOf pre ++ [(i, sk, sw)]) q') ∧
          Owned w0 W' (([(Bx, slotO ⟨sk, sw, true, snx⟩)] ++ (K ++ [lbox B (.func (.yield l) #[] #[]) 63, lbox (B + 1) (.slice (some ⟨b, 0, none⟩) n cap) 52])) ++ (q' ++ ([lbox ba (.pointer (some ⟨g, 0, none⟩)) 24, (g, .cells #[.int .i64 most, .slice (some ⟨b, 0, none⟩) n cap, .int .i64 gone, .int .i64 held] 54 (0, 0))] ++ ([(b, .cells cur 56 (0, 0))] ++ N)))) := by
        refine (roundIn_any rfl hR).mono ?_
        rintro e W3 (⟨rfl, q3, hQ3, hO3⟩ | ⟨rfl, q3, hQ3, hO3⟩)
        · exact ⟨true, rfl, q3, hQ3, hO3⟩
        · exact ⟨false, rfl, q3, hQ3, hO3⟩
      have hh : heldOf (pre ++ [(i, ⟨sk, sw, true, snx⟩)]) = heldOf pre ++ [(i, sk, sw)] := by rw [heldOf_append]; rfl
      have HH := Lib.hid hh
      unfold encN at hy
      dsimp only at hy
      clear hOb hOc hO hR hY hs hs' hpm hh
      gi_wp2
      refine hR2.mono ?_
      rintro e W3 ⟨c, rfl, q3, hQ3, hO3⟩
      have hE := HE.out _ _ hO3
      clear hO3 hR2 hy
      cases c
      · gi_wp2
        exact ⟨q3, ⟨rfl, by show Qx (heldOf (pre ++ [(i, ⟨sk, sw, true, snx⟩)])) q3; rw [HH.out]; exact hQ3⟩, hE⟩
      · gi_wp2
        exact ⟨q3, by show Q (heldOf (pre ++ [(i, ⟨sk, sw, true, snx⟩)])) q3; rw [HH.out]; exact hQ3, hE⟩
    | false =>
      have hh : heldOf (pre ++ [(i, ⟨sk, sw, false, snx⟩)]) = heldOf pre := by rw [heldOf_append]; exact List.append_nil _
      have HH := Lib.hid hh
      have hE := HE.out _ _ hOc
      clear hOb hOc hO hY hs hpm hh
      gi_wp2
      refine ⟨fun _ h => (by cases h), ?_⟩
      gi_wp2
      exact ⟨q, by show Q (heldOf (pre ++ [(i, ⟨sk, sw, false, snx⟩)])) q; rw [HH.out]; exact hI, hE⟩
  case done =>
    intro D W q hI hO
    gi_wp2
    refine ⟨by simp, .inl ⟨_, _, rfl, run_takeDeferred hO.head, ?_⟩⟩
    refine ⟨_, results_none rfl _ _ _, ⟨_, rfl⟩, .inl ⟨q, hI, ?_⟩⟩
    have h9 := (hO.put (.deferred none)).tail.perm (permD (lbox B (.func (.yield l) #[] #[]) 63) (lbox (B + 1) (.slice (some ⟨b, 0, none⟩) n cap) 52) q [lbox ba (.pointer (some ⟨g, 0, none⟩)) 24, (g, .cells #[.int .i64 most, .slice (some ⟨b, 0, none⟩) n cap, .int .i64 gone, .int .i64 held] 54 (0, 0))] (b, .cells cur 56 (0, 0)) N).symm
    exact h9.tail.tail
  case stop =>
    rintro D c pre W q hpre ⟨rfl, hI⟩ hO
    gi_wp2
    refine ⟨by simp, .inl ⟨_, _, rfl, run_takeDeferred hO.head, ?_⟩⟩
    refine ⟨_, results_none rfl _ _ _, ⟨_, rfl⟩, .inr ⟨heldOf pre, q, ?_, hI, ?_⟩⟩
    · obtain ⟨t, ht⟩ := hpre
      exact ⟨heldOf t, by rw [← heldOf_append, ht]⟩
    · have h9 := (hO.put (.deferred none)).tail.perm (permD (lbox B (.func (.yield l) #[] #[]) 63) (lbox (B + 1) (.slice (some ⟨b, 0, none⟩) n cap) 52) q [lbox ba (.pointer (some ⟨g, 0, none⟩)) 24, (g, .cells #[.int .i64 most, .slice (some ⟨b, 0, none⟩) n cap, .int .i64 gone, .int .i64 held] 54 (0, 0))] (b, .cells cur 56 (0, 0)) N).symm
      exact h9.tail.tail
end
end Go.Proofs.Ytepjebmiegkpnaa
