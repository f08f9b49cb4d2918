/- Layer 6: all: numbers and nodes, up to some. -/
import Derived.Test.YtepjebmiegkpnaaArAll2
import Derived.Test.YtepjebmiegkpnaaReads
import Derived.Deep.RegionHeld3
namespace Go.Proofs.Ytepjebmiegkpnaa
open Go.RowKit Go.Sep Go.Shelf
attribute [local go_sem] Oper.semAt_some
theorem permE0 (ba b6 b7 b3 R T : Go.Sep.Own) : (ba ++ (b6 ++ (b7 ++ (b3 ++ (R ++ (T)))))).Perm (b3 ++ (b6 ++ (b7 ++ (ba ++ (R ++ (T)))))) :=
  (perm4 ba b6 b7 b3 _).trans (List.Perm.append_left b3 ((perm2 ba b6 _).trans (List.Perm.append_left b6 ((perm2 ba b7 _).trans (List.Perm.append_left b7 (List.Perm.refl _))))))
theorem permE1 (A K b3 b6 b7 q1 q2 T : Go.Sep.Own) : (A ++ (K ++ (b3 ++ (b6 ++ (b7 ++ (q1 ++ (q2 ++ (T)))))))).Perm (q1 ++ (b6 ++ (b3 ++ (b7 ++ (q2 ++ (A ++ (K ++ (T)))))))) :=
  ((List.Perm.append_left A (perm5 K b3 b6 b7 q1 _)).trans (perm2 A q1 _)).trans (List.Perm.append_left q1 ((perm4 A K b3 b6 _).trans (List.Perm.append_left b6 ((perm3 A K b3 _).trans (List.Perm.append_left b3 ((perm3 A K b7 _).trans (List.Perm.append_left b7 ((perm3 A K q2 _).trans (List.Perm.append_left q2 (List.Perm.refl _))))))))))
theorem permE2 (q1 b6 b3 b7 q2 A K T : Go.Sep.Own) : (q1 ++ (b6 ++ (b3 ++ (b7 ++ (q2 ++ (A ++ (K ++ (T)))))))).Perm (q2 ++ (b7 ++ (b6 ++ (b3 ++ (q1 ++ (A ++ (K ++ (T)))))))) :=
  (perm5 q1 b6 b3 b7 q2 _).trans (List.Perm.append_left q2 ((perm4 q1 b6 b3 b7 _).trans (List.Perm.append_left b7 ((perm2 q1 b6 _).trans (List.Perm.append_left b6 ((perm2 q1 b3 _).trans (List.Perm.append_left b3 (List.Perm.refl _))))))))
theorem permE3 (q2 b7 b6 b3 q1 A K T : Go.Sep.Own) : (q2 ++ (b7 ++ (b6 ++ (b3 ++ (q1 ++ (A ++ (K ++ (T)))))))).Perm (A ++ (K ++ (b3 ++ (b6 ++ (b7 ++ (q1 ++ (q2 ++ (T)))))))) :=
  ((List.Perm.append_left q2 (perm5 b7 b6 b3 q1 A _)).trans (perm2 q2 A _)).trans (List.Perm.append_left A (((List.Perm.append_left q2 (perm5 b7 b6 b3 q1 K _)).trans (perm2 q2 K _)).trans (List.Perm.append_left K ((perm4 q2 b7 b6 b3 _).trans (List.Perm.append_left b3 ((perm3 q2 b7 b6 _).trans (List.Perm.append_left b6 ((perm2 q2 b7 _).trans (List.Perm.append_left b7 ((perm2 q2 q1 _).trans (List.Perm.append_left q1 (List.Perm.refl _))))))))))))
theorem permE4 (D b3 b6 b7 q1 q2 R T : Go.Sep.Own) : (D ++ (b3 ++ (b6 ++ (b7 ++ (q1 ++ (q2 ++ (R ++ (T)))))))).Perm (q1 ++ (q2 ++ (D ++ (b3 ++ (b6 ++ (b7 ++ (R ++ (T)))))))) :=
  (perm5 D b3 b6 b7 q1 _).trans (List.Perm.append_left q1 ((perm5 D b3 b6 b7 q2 _).trans (List.Perm.append_left q2 (List.Perm.refl _))))
def nodesV : List (Nat × Int × Int) → List Value
  | [] => []
  | x :: l => .int .i64 x.2.1 :: .int .i64 x.2.2 :: nodesV l
theorem nodesV_append : ∀ a b, nodesV (a ++ b) = nodesV a ++ nodesV b
  | [], _ => rfl
  | x :: a, b => by rw [List.cons_append, nodesV, nodesV, nodesV_append a b]; rfl
def numsOf (l : List (Nat × Int × Int)) : List Int := l.map (fun x => (x.1 : Int))
theorem ints_snoc6 (l : List Int) (x : Int) : ints (l ++ [x]) = ints l ++ [.int .i64 x] := by unfold ints; simp
theorem info_i6 : (Try.prog.info? 3).map (fun i => (i.zero, i.size, i.bytes)) = some (some (.int .i64 0), 1, 8) := by kernel_rfl
theorem info_n6 : (Try.prog.info? 30).map (fun i => (i.zero, i.size, i.bytes)) = some (some (.agg #[.int .i64 0, .int .i64 0]), 2, 16) := by kernel_rfl
theorem cell_two_new (w : World) (x y : Value) (t : TypeId) : ∀ j u, [x, y][j]? = some u → (w.alloc (.cells #[x, y] t)).cell? ((⟨w.heap.size, 0, none⟩ : Addr).add j) = some u := by
  intro j u hj
  have hb : (w.alloc (.cells #[x, y] t)).heap[w.heap.size]? = some (.cells #[x, y] t (0, 0)) := heap_alloc_new w _
  have hc : ∀ i, (w.alloc (.cells #[x, y] t)).cell? ⟨w.heap.size, i, none⟩ = #[x, y][i]? := fun i => by
    unfold World.cell?
    rw [hb]
    rfl
  have e : (⟨w.heap.size, 0, none⟩ : Addr).add j = ⟨w.heap.size, j, none⟩ := by
    unfold Addr.add
    rw [Nat.zero_add]
    split
    · next h => rw [h]
    · rfl
  rw [e, hc j]
  simpa using hj
def AllSt (M B : Nat) (pre : List (Nat × Int × Int)) (q : Sep.Own) : Prop :=
  ∃ v1 q1 v2 q2, q = [lbox B (.int .i64 (M : Int)) 3] ++ ([lbox (B + 1) v1 22] ++ ([lbox (B + 1 + 1) v2 46] ++ (q1 ++ q2))) ∧ Row 3 1 v1 pre.length (ints (numsOf pre)) q1 ∧ Row 30 2 v2 pre.length (nodesV pre) q2
section
variable {sl : List Sl} {w0 w : World} {g most gone held : Nat} {r F : Sep.Own}
set_option maxHeartbeats 6400000 in
set_option maxRecDepth 100000 in
theorem all_calls (hr : ArenaC g most sl gone held r) (M : Nat) (hM : 0 < M ∧ M ≤ 1000000) (hlen : (heldOf (enumS 0 sl)).length ≤ 1000000) (hO : Owned w0 w (r ++ F)) :
    Calls Try.prog 22 #[.pointer (some ⟨g, 0, none⟩), .int .i64 (M : Int)] w fun e w' => ∃ v1 v2 q1 q2, e = .returned (.tuple #[v1, v2]) ∧ Row 3 1 v1 ((heldOf (enumS 0 sl)).take M).length (ints (numsOf ((heldOf (enumS 0 sl)).take M))) q1 ∧ Row 30 2 v2 ((heldOf (enumS 0 sl)).take M).length (nodesV ((heldOf (enumS 0 sl)).take M)) q2 ∧ Owned w0 w' (q1 ++ (q2 ++ (r ++ F))) := by
  have hiter := fun ba => arall_iter (w0 := w0) (ba := ba) hr
  generalize heldOf (enumS 0 sl) = xs at *
  refine (callsIn_wide (n := 9)).1 ?_
  refine callsIn_of_wp_marks Try.func22 rfl trivial ?_ rfl
  simp only [Try.ntmps22, List.size_toArray, List.length_cons, List.length_nil, Nat.reduceAdd, Nat.reduceSub, Array.replicate_succ, Array.replicate_zero, List.push_toArray, List.append_toArray, List.nil_append, List.cons_append]
  have hO1 := ((hO.alloc (.cells #[.int .i64 (M : Int)] 3)).alloc2 (.cells #[.slice none 0 0] 22) (.cells #[.slice none 0 0] 46)).alloc (.cells #[.pointer (some ⟨g, 0, none⟩)] 24)
  gi_wp2_with (refine ⟨trivial, ?_⟩; gi_at_call 25; refine (callsIn_wide.2 (arall_calls _ _)).mono ?_; rintro e w' ⟨rfl, rfl⟩)
  simp only [World.size_alloc] at hO1
  generalize hW0 : ((((w.alloc (.cells #[.int .i64 (M : Int)] 3)).alloc (.cells #[.slice none 0 0] 22)).alloc (.cells #[.slice none 0 0] 46)).alloc (.cells #[.pointer (some ⟨g, 0, none⟩)] 24)) = W0 at *
  clear hW0
  generalize w.heap.size = B at *
  have hO2 : Owned w0 W0 (([lbox B (.int .i64 (M : Int)) 3] ++ ([lbox (B + 1) (.slice none 0 0) 22] ++ ([lbox (B + 1 + 1) (.slice none 0 0) 46] ++ ([] ++ [])))) ++ ((lbox (B + 1 + 1 + 1) (.pointer (some ⟨g, 0, none⟩)) 24 :: r) ++ F)) :=
    hO1.perm (permE0 [_] [_] [_] [_] r F)
  clear hO1 hO
  refine range_own2 (P := Try.prog) (w0 := w0) (gf := 26) (lb := #[.pointer (some ⟨B + 1 + 1 + 1, 0, none⟩)]) rfl (enters_of Try.func26 (by kernel_rfl) rfl) (fun _ => rfl) (hiter (B + 1 + 1 + 1)) (N := F)
    (fun pre q => AllSt M B pre q ∧ pre.length < M) (fun c pre q => c = .exit 0 ∧ AllSt M B pre q ∧ pre.length = M) ⟨⟨_, [], _, [], rfl, Row.nil _ _, Row.nil _ _⟩, hM.1⟩ hO2
    (fun x K' a' => ∃ Bx, K' = [(Bx, .cells #[.int .i64 x.2.1, .int .i64 x.2.2] 30 (0, 0))] ∧ a' = { tmps := #[.pointer (some ⟨g, 0, none⟩), .int .i64 (M : Int), undef, .pointer (some ⟨B, 0, none⟩), .slice none 0 0, .slice none 0 0, .pointer (some ⟨B + 1, 0, none⟩), .pointer (some ⟨B + 1 + 1, 0, none⟩), .int .i64 (x.1 : Int), .pointer (some ⟨Bx, 0, none⟩), .pointer (some ⟨g, 0, none⟩), .func (.func 26) #[] #[.pointer (some ⟨B + 1 + 1 + 1, 0, none⟩)], .int .i64 (x.1 : Int), .agg #[.int .i64 x.2.1, .int .i64 x.2.2], undef, undef, undef, undef, undef, undef, undef, undef, undef, undef, undef, undef, undef, undef], defers := [] })
    ?assign ?body ?done ?stop
  case assign =>
    rintro l2 ⟨i, k, v⟩ W T hT
    have hT2 := hT.alloc (.cells #[.int .i64 k, .int .i64 v] 30)
    unfold encN
    dsimp only
    gi_wp2
    exact ⟨_, ⟨W.heap.size, rfl, rfl⟩, hT2⟩
  case body =>
    rintro l2 pre ⟨i, k, v⟩ post hx K' a' ⟨Bx, rfl, rfl⟩ K W q ⟨⟨v1, q1, v2, q2, rfl, hrow1, hrow2⟩, hlt⟩ hO
    obtain ⟨j, hj⟩ : ∃ j, pre.length = j := ⟨_, rfl⟩
    have hjn : j + 1 ≤ 1000000 := by rw [hx, List.length_append, List.length_cons] at hlen; omega
    rw [hj] at hrow1 hrow2 hlt
    have hX : (pre ++ [(i, k, v)]).length = j + 1 := by rw [List.length_append, hj]; rfl
    have hI1 : ints (numsOf (pre ++ [(i, k, v)])) = ints (numsOf pre) ++ [.int .i64 (i : Int)] := by unfold numsOf; rw [List.map_append]; exact ints_snoc6 _ _
    have hI2 : nodesV (pre ++ [(i, k, v)]) = nodesV pre ++ [.int .i64 k, .int .i64 v] := nodesV_append _ _
    have HX := Lib.hid (And.intro hX (And.intro hI1 hI2))
    have hm1 : j + 1 ≤ maxLen := by unfold maxLen; omega
    have hm2 : (j + 1) * 8 ≤ 140737488355328 := by omega
    have hm3 : (j + 1) * 16 ≤ 140737488355328 := by omega
    have c0 : W.cell? ⟨Bx, 0, none⟩ = some (.int .i64 k) := (Owned.cell hO 0).trans rfl
    have c1 : W.cell? ⟨Bx, 1, none⟩ = some (.int .i64 v) := (Owned.cell hO 1).trans rfl
    have hO1 : Owned w0 W (q1 ++ ([lbox (B + 1) v1 22] ++ ([lbox B (.int .i64 (M : Int)) 3] ++ ([lbox (B + 1 + 1) v2 46] ++ (q2 ++ ([(Bx, Obj.cells #[.int .i64 k, .int .i64 v] 30 (0, 0))] ++ (K ++ ((lbox (B + 1 + 1 + 1) (.pointer (some ⟨g, 0, none⟩)) 24 :: r) ++ F)))))))) :=
      (by simp only [List.append_assoc] at hO; exact hO : Owned w0 W ([(Bx, Obj.cells #[.int .i64 k, .int .i64 v] 30 (0, 0))] ++ (K ++ ([lbox B (.int .i64 (M : Int)) 3] ++ ([lbox (B + 1) v1 22] ++ ([lbox (B + 1 + 1) v2 46] ++ (q1 ++ (q2 ++ ((lbox (B + 1 + 1 + 1) (.pointer (some ⟨g, 0, none⟩)) 24 :: r) ++ F))))))))).perm (permE1 _ K _ _ _ q1 q2 _)
    have c2 : W.cell? ⟨B + 1, 0, none⟩ = some v1 := (Owned.cell (hO1.perm List.perm_middle) 0).trans rfl
    have HO0 := Lib.hid hO1
    clear hO hx hj hX hI1 hI2 hlen hiter
    gi_wp2_with (gi_at_builtin; refine append_one_in rfl (.tmp 14) (.tmp 16) 22 rfl 3 (.int .i64 0) 8 Try.underlying22 info_i6 rfl _ j _ q1 _ _ rfl hrow1 hO1 rfl rfl hm1 hm2 ?_)
    intro v3 q3 w5 hrow3 hO3
    obtain ⟨A3, c3, rfl⟩ := hrow3.slice
    have hO4 := hO3.perm List.perm_middle
    have c5 : w5.cell? ⟨B + 1, 0, none⟩ = some v1 := (Owned.cell hO4 0).trans rfl
    have f5 : w5.frozen? ⟨B + 1, 0, none⟩ = false := Owned.frozen hO4 0
    have hO5 : Owned w0 (w5.setCell ⟨B + 1, 0, none⟩ (.slice A3 (j + 1) c3)) (lbox (B + 1) (.slice A3 (j + 1) c3) 22 :: _) := hO4.set 0 (.slice A3 (j + 1) c3)
    have hO6 := hO5.perm (List.perm_middle (l₁ := q3)).symm
    have hO7 := hO6.perm (permE2 q3 [lbox (B + 1) (.slice A3 (j + 1) c3) 22] [lbox B (.int .i64 (M : Int)) 3] [lbox (B + 1 + 1) v2 46] q2 [(Bx, Obj.cells #[.int .i64 k, .int .i64 v] 30 (0, 0))] K ((lbox (B + 1 + 1 + 1) (.pointer (some ⟨g, 0, none⟩)) 24 :: r) ++ F))
    have c7 : (w5.setCell ⟨B + 1, 0, none⟩ (.slice A3 (j + 1) c3)).cell? ⟨B + 1 + 1, 0, none⟩ = some v2 := (Owned.cell (hO7.perm List.perm_middle) 0).trans rfl
    have hOx := hO7.perm (permE3 q2 [lbox (B + 1 + 1) v2 46] [lbox (B + 1) (.slice A3 (j + 1) c3) 22] [lbox B (.int .i64 (M : Int)) 3] q3 [(Bx, Obj.cells #[.int .i64 k, .int .i64 v] 30 (0, 0))] K ((lbox (B + 1 + 1 + 1) (.pointer (some ⟨g, 0, none⟩)) 24 :: r) ++ F))
    have c8 : (w5.setCell ⟨B + 1, 0, none⟩ (.slice A3 (j + 1) c3)).cell? ⟨Bx, 0, none⟩ = some (.int .i64 k) := (Owned.cell hOx 0).trans rfl
    have c9 : (w5.setCell ⟨B + 1, 0, none⟩ (.slice A3 (j + 1) c3)).cell? ⟨Bx, 1, none⟩ = some (.int .i64 v) := (Owned.cell hOx 1).trans rfl
    have hO8 := hO7.alloc_ (.cells #[.int .i64 k, .int .i64 v] 30)
    have h2n : ∀ t u, [Value.int .i64 k, Value.int .i64 v][t]? = some u → ((w5.setCell ⟨B + 1, 0, none⟩ (.slice A3 (j + 1) c3)).alloc (.cells #[.int .i64 k, .int .i64 v] 30)).cell? ((⟨w5.heap.size, 0, none⟩ : Addr).add t) = some u := by
      have h9 := cell_two_new (w5.setCell ⟨B + 1, 0, none⟩ (.slice A3 (j + 1) c3)) (.int .i64 k) (.int .i64 v) 30
      rw [show (w5.setCell ⟨B + 1, 0, none⟩ (.slice A3 (j + 1) c3)).heap.size = w5.heap.size by simp] at h9
      exact h9
    have HROW3 := Lib.hid hrow3
    clear hO3 hO4 hO5 hO6 hO7 hOx hO1 hrow1 hrow3 c0 c1 c2 HO0
    gi_wp2_with (gi_at_builtin; refine append_row_in rfl (.tmp 18) (.tmp 20) 46 rfl 30 (.agg #[.int .i64 0, .int .i64 0]) 2 16 Try.underlying46 info_n6 rfl (by decide) _ j _ q2 _ rfl hrow2 hO8 ⟨w5.heap.size, 0, none⟩ 1 1 [.int .i64 k, .int .i64 v] rfl rfl h2n (by simp [Value.oneCell']) hm1 hm3 ?_)
    intro v4 q4 w7 hrow4 hO9
    obtain ⟨A4, c4, rfl⟩ := hrow4.slice
    have hO10 := hO9.perm List.perm_middle
    have d5 : w7.cell? ⟨B + 1 + 1, 0, none⟩ = some v2 := (Owned.cell hO10 0).trans rfl
    have e5 : w7.frozen? ⟨B + 1 + 1, 0, none⟩ = false := Owned.frozen hO10 0
    have hO11 : Owned w0 (w7.setCell ⟨B + 1 + 1, 0, none⟩ (.slice A4 (j + 1) c4)) (lbox (B + 1 + 1) (.slice A4 (j + 1) c4) 46 :: _) := hO10.set 0 (.slice A4 (j + 1) c4)
    have hO12 := hO11.perm (List.perm_middle (l₁ := q4)).symm
    have hE0 := hO12.perm (permE3 q4 [lbox (B + 1 + 1) (.slice A4 (j + 1) c4) 46] [lbox (B + 1) (.slice A3 (j + 1) c3) 22] [lbox B (.int .i64 (M : Int)) 3] q3 [(Bx, Obj.cells #[.int .i64 k, .int .i64 v] 30 (0, 0))] K ((lbox (B + 1 + 1 + 1) (.pointer (some ⟨g, 0, none⟩)) 24 :: r) ++ F))
    have hE1 := hE0.tail
    have d6 : (w7.setCell ⟨B + 1 + 1, 0, none⟩ (.slice A4 (j + 1) c4)).cell? ⟨B, 0, none⟩ = some (.int .i64 (M : Int)) := (Owned.cell (hE1.perm List.perm_middle) 0).trans rfl
    have d7 : (w7.setCell ⟨B + 1 + 1, 0, none⟩ (.slice A4 (j + 1) c4)).cell? ⟨B + 1, 0, none⟩ = some (.slice A3 (j + 1) c3) := (Owned.cell (hE1.perm ((List.Perm.append_left K (List.Perm.swap _ _ _)).trans List.perm_middle)) 0).trans rfl
    have hE2 : Owned w0 (w7.setCell ⟨B + 1 + 1, 0, none⟩ (.slice A4 (j + 1) c4)) (K ++ (([lbox B (.int .i64 (M : Int)) 3] ++ ([lbox (B + 1) (.slice A3 (j + 1) c3) 22] ++ ([lbox (B + 1 + 1) (.slice A4 (j + 1) c4) 46] ++ (q3 ++ q4)))) ++ ((lbox (B + 1 + 1 + 1) (.pointer (some ⟨g, 0, none⟩)) 24 :: r) ++ F))) := by
      simp only [List.append_assoc]
      exact hE1
    have hA : AllSt M B (pre ++ [(i, k, v)]) ([lbox B (.int .i64 (M : Int)) 3] ++ ([lbox (B + 1) (.slice A3 (j + 1) c3) 22] ++ ([lbox (B + 1 + 1) (.slice A4 (j + 1) c4) 46] ++ (q3 ++ q4)))) := by
      obtain ⟨hX, hI1, hI2⟩ := HX.out
      refine ⟨_, q3, _, q4, rfl, ?_, ?_⟩
      · rw [hX, hI1]; exact HROW3.out
      · rw [hX, hI2]; exact hrow4
    have HE := Lib.hid (And.intro hA hE2)
    have HXX := Lib.hid HX.out.1
    clear hA hE2 hE1 hE0 hO12 hO11 hO10 hO9 hrow4 hrow2 hO8 c7 c8 c9 HROW3 HX
    by_cases hge : M ≤ j + 1
    · have g1 : decide ((M : Int) ≤ ((j + 1 : Nat) : Int)) = true := by simp; omega
      have g2 : decide ((M : Int) ≤ (j : Int) + 1) = true := by simp; omega
      gi_wp2
      exact ⟨_, ⟨rfl, HE.out.1, by rw [HXX.out]; omega⟩, HE.out.2⟩
    · have g1 : decide ((M : Int) ≤ ((j + 1 : Nat) : Int)) = false := by simp; omega
      have g2 : decide ((M : Int) ≤ (j : Int) + 1) = false := by simp; omega
      gi_wp2
      exact ⟨_, ⟨HE.out.1, by rw [HXX.out]; omega⟩, HE.out.2⟩
  case done =>
    rintro D W q ⟨⟨v1, q1, v2, q2, rfl, hrow1, hrow2⟩, hlt⟩ hO
    have hO1 : Owned w0 W ([(D, Obj.deferred (some []))] ++ ([lbox B (.int .i64 (M : Int)) 3] ++ ([lbox (B + 1) v1 22] ++ ([lbox (B + 1 + 1) v2 46] ++ (q1 ++ (q2 ++ ((lbox (B + 1 + 1 + 1) (.pointer (some ⟨g, 0, none⟩)) 24 :: r) ++ F))))))) := by
      simp only [List.append_assoc] at hO
      exact hO
    have c1 : W.cell? ⟨B + 1, 0, none⟩ = some v1 := (Owned.cell hO1.tail.tail 0).trans rfl
    have c2 : W.cell? ⟨B + 1 + 1, 0, none⟩ = some v2 := (Owned.cell hO1.tail.tail.tail 0).trans rfl
    have hOd := hO1.drew
    have hmx : Try.prog.follows .mixedOrders = true := by kernel_rfl
    clear hO
    gi_wp2
    refine wpIn_mono (Q := NoPanic _) ?_ NoPanic.imp
    gi_region_with_o (fail)
    all_goals refine NoPanic.normal ?_
    all_goals gi_wp2
    all_goals refine ⟨by simp, .inl ⟨_, _, rfl, run_takeDeferred hOd.head, ?_⟩⟩
    all_goals refine ⟨_, results_tmp2 rfl _ _ _, v1, v2, q1, q2, rfl, ?_, ?_, ?_⟩
    all_goals first
      | (rw [List.take_of_length_le (Nat.le_of_lt hlt)]; exact hrow1)
      | (rw [List.take_of_length_le (Nat.le_of_lt hlt)]; exact hrow2)
      | (have h9 := (hOd.put (.deferred none)).perm (permE4 [(D, Obj.deferred none)] [lbox B (.int .i64 (M : Int)) 3] [lbox (B + 1) v1 22] [lbox (B + 1 + 1) v2 46] q1 q2 [lbox (B + 1 + 1 + 1) (.pointer (some ⟨g, 0, none⟩)) 24] (r ++ F))
         exact h9.sub (List.Sublist.append (List.Sublist.refl q1) (List.Sublist.append (List.Sublist.refl q2) ((((((List.sublist_cons_self _ _).trans (List.sublist_cons_self _ _)).trans (List.sublist_cons_self _ _)).trans (List.sublist_cons_self _ _)).trans (List.sublist_cons_self _ _))))))
  case stop =>
    rintro D c pre W q hpre ⟨rfl, ⟨v1, q1, v2, q2, rfl, hrow1, hrow2⟩, hlt⟩ hO
    obtain ⟨t, rfl⟩ := hpre
    have hO1 : Owned w0 W ([(D, Obj.deferred (some []))] ++ ([lbox B (.int .i64 (M : Int)) 3] ++ ([lbox (B + 1) v1 22] ++ ([lbox (B + 1 + 1) v2 46] ++ (q1 ++ (q2 ++ ((lbox (B + 1 + 1 + 1) (.pointer (some ⟨g, 0, none⟩)) 24 :: r) ++ F))))))) := by
      simp only [List.append_assoc] at hO
      exact hO
    have c1 : W.cell? ⟨B + 1, 0, none⟩ = some v1 := (Owned.cell hO1.tail.tail 0).trans rfl
    have c2 : W.cell? ⟨B + 1 + 1, 0, none⟩ = some v2 := (Owned.cell hO1.tail.tail.tail 0).trans rfl
    have hOd := hO1.drew
    have hmx : Try.prog.follows .mixedOrders = true := by kernel_rfl
    clear hO
    gi_wp2
    refine wpIn_mono (Q := NoPanic _) ?_ NoPanic.imp
    gi_region_with_o (fail)
    all_goals refine NoPanic.normal ?_
    all_goals gi_wp2
    all_goals refine ⟨by simp, .inl ⟨_, _, rfl, run_takeDeferred hOd.head, ?_⟩⟩
    all_goals refine ⟨_, results_tmp2 rfl _ _ _, v1, v2, q1, q2, rfl, ?_, ?_, ?_⟩
    all_goals first
      | (rw [List.take_left' hlt]; exact hrow1)
      | (rw [List.take_left' hlt]; exact hrow2)
      | (have h9 := (hOd.put (.deferred none)).perm (permE4 [(D, Obj.deferred none)] [lbox B (.int .i64 (M : Int)) 3] [lbox (B + 1) v1 22] [lbox (B + 1 + 1) v2 46] q1 q2 [lbox (B + 1 + 1 + 1) (.pointer (some ⟨g, 0, none⟩)) 24] (r ++ F))
         exact h9.sub (List.Sublist.append (List.Sublist.refl q1) (List.Sublist.append (List.Sublist.refl q2) ((((((List.sublist_cons_self _ _).trans (List.sublist_cons_self _ _)).trans (List.sublist_cons_self _ _)).trans (List.sublist_cons_self _ _)).trans (List.sublist_cons_self _ _))))))
end
end Go.Proofs.Ytepjebmiegkpnaa
