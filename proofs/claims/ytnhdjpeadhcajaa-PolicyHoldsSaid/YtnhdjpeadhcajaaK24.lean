/- Merged texts: Layer 7: an element is moved, or weighs something else. Layer 7: an element weighs something else. -/
import Derived.Test.YtnhdjpeadhcajaaK23
namespace Go.Proofs.Ytnhdjpeadhcajaa
open Go.RowKit Go.Sep DqPure
section
variable {X : Own} {m n bx bm : Nat} {L : Nat → Nat} {B : Nat → Prop} {S : Nat → List Nat} {nx pv li : Nat → Nat} {id wt : Nat → Int} {LW : Nat → Int} {LN : Nat → Nat} {r F : Own} {w0 w : World} {st : Nat → List (Int × Int)}
theorem DqIn.moved {v : Value} {q r1 : Own} {f : Int → Nat} {o : Obj} {k j b : Nat} {us ts : List Nat} (h : DqIn bx m n v bm q L S nx pv li id wt LW LN f o r) (hk : k < m) (hj : j < m) (hS : S k = us ++ b :: ts)
    {nx' pv' li' : Nat → Nat} {LW' : Nat → Int} {LN' : Nat → Nat} (hl : DqL ((bm, o) :: (bx, LoO v bm) :: q) m L (updS (updS S k (us ++ ts)) j (updS S k (us ++ ts) j ++ [b])) nx' pv' li' id wt LW' LN' r1) :
    DqIn bx m n v bm q L (updS (updS S k (us ++ ts)) j (updS S k (us ++ ts) j ++ [b])) nx' pv' li' id wt LW' LN' f o r1 := by
  have hbS : b ∈ S k := by rw [hS]; simp
  refine ⟨hl, h.xn, h.row, h.m16, h.map, fun i hi c hc => ?_, fun y hy => ?_, ?_⟩
  · rcases mem_upd_push hc with hc | ⟨hc, -⟩
    · exact h.fm i hi c (mem_upd_un hS hc)
    · rw [hc]; exact h.fm k hk b hbS
  · obtain ⟨i, c, hi, hc, h1, h2⟩ := h.fc y hy
    by_cases e : c = b
    · exact ⟨j, c, hj, by rw [updS_same, e]; simp, h1, h2⟩
    · refine ⟨i, c, hi, mem_upd_old ?_, h1, h2⟩
      by_cases e2 : i = k
      · subst e2
        rw [updS_same]
        rw [hS] at hc
        simp only [List.mem_append, List.mem_cons] at hc ⊢
        rcases hc with hc | hc | hc
        · exact Or.inl hc
        · exact absurd hc e
        · exact Or.inr hc
      · rw [updS_ne _ _ e2]
        exact hc
  · have h1 := totl_upd S (us ++ ts) m hk
    have h2 := totl_upd (updS S k (us ++ ts)) (updS S k (us ++ ts) j ++ [b]) m hj
    rw [hS] at h1
    simp only [List.length_append, List.length_cons, List.length_nil] at h1 h2
    have h3 := h.tot
    omega
set_option maxHeartbeats 1600000 in
theorem dq_move_none {x k : Int} (hD : DqAt bx m n st r) (hx : wfk x) (ha : Absent m st x) (hO : Owned w0 w (r ++ F)) :
    Calls Try.prog 57 #[.pointer (some ⟨bx, 0, none⟩), .int .i64 x, .int .i64 k] w fun e w' => e = .returned (.int .i64 3) ∧ Below w.heap.size w w' := by
  obtain ⟨v, bm, q, L, S, nx, pv, li, id, wt, LW, LN, f, o, h, hst⟩ := hD
  obtain ⟨-, c1⟩ := h.cx hO
  have hl := h.map.look (hO.drew.look_at h.om).2 hx
  rw [h.f_none hst ha] at hl
  unfold toP at hl
  obtain ⟨u, hu⟩ : ∃ u, Calls Try.prog 52 #[.pointer (some ⟨bx, 0, none⟩), .int .i64 k] w.drew fun e w' => e = .returned (.pointer u) ∧ w' = w.drew := by
    by_cases hk : 0 ≤ k ∧ k < (m : Int)
    · obtain ⟨k, rfl⟩ : ∃ j : Nat, k = (j : Int) := ⟨k.toNat, by omega⟩
      exact ⟨_, dq_row_some h (by omega) hO.drew⟩
    · exact ⟨_, dq_row_none h (bad_row hk) hO.drew⟩
  have HU := Lib.hid hu
  clear h hO hst ha hx hu
  go_enter Try.func57, Try.ntmps57
  go_wp2_with fail
  go_region_with ((go_at_call 52; (with_reducible refine (HU.out).mono ?_); rintro e w5 ⟨rfl, rfl⟩))
  all_goals go_wp2_with fail
  all_goals go_ret
  all_goals exact ⟨rfl, (Below.refl _ _).drew⟩
set_option maxHeartbeats 1600000 in
theorem dq_move_bad {j : Nat} {x z k : Int} {xs ys : List (Int × Int)} (hD : DqAt bx m n st r) (hj : j < m) (hs : st j = xs ++ (x, z) :: ys) (hk : ¬ (0 ≤ k ∧ k < (m : Int))) (hO : Owned w0 w (r ++ F)) :
    Calls Try.prog 57 #[.pointer (some ⟨bx, 0, none⟩), .int .i64 x, .int .i64 k] w fun e w' => e = .returned (.int .i64 1) ∧ Below w.heap.size w w' := by
  obtain ⟨v, bm, q, L, S, nx, pv, li, id, wt, LW, LN, f, o, h, hst⟩ := hD
  obtain ⟨-, c1⟩ := h.cx hO
  obtain ⟨b, us, ts, hS, rfl, rfl, rfl, hwt, hf⟩ := h.f_some hst hj hs
  have hir := h.l.ir j hj b (by rw [hS]; simp)
  have hl := h.map.look (hO.drew.look_at h.om).2 (wfk_id ⟨hir.1, hir.2.1⟩)
  rw [hf] at hl
  unfold toP nptr at hl
  have HU := Lib.hid (dq_row_none h (bad_row hk) hO.drew)
  clear h hO hst hir hS hf hs hk
  go_enter Try.func57, Try.ntmps57
  go_wp2_with fail
  go_region_with ((go_at_call 52; (with_reducible refine (HU.out).mono ?_); rintro e w5 ⟨rfl, rfl⟩))
  all_goals go_wp2_with fail
  all_goals go_ret
  all_goals exact ⟨rfl, (Below.refl _ _).drew⟩
theorem st_moved {k j b : Nat} {us ts : List Nat} (hst : ∀ j, j < m → st j = (S j).map (fun b => (id b, wt b))) :
    ∀ i, i < m → updS (updS st k (us.map (fun b => (id b, wt b)) ++ ts.map (fun b => (id b, wt b)))) j (updS st k (us.map (fun b => (id b, wt b)) ++ ts.map (fun b => (id b, wt b))) j ++ [(id b, wt b)]) i
      = (updS (updS S k (us ++ ts)) j (updS S k (us ++ ts) j ++ [b]) i).map (fun b => (id b, wt b)) := by
  intro i hi
  have h1 := st_unlinked (k := k) (us := us) (ts := ts) hst
  by_cases e : i = j
  · subst e
    rw [updS_same, updS_same, List.map_append, h1 i hi]
    rfl
  · rw [updS_ne _ _ e, updS_ne _ _ e]
    exact h1 i hi
set_option maxHeartbeats 1600000 in
theorem dq_move_some {k j : Nat} {x z : Int} {xs ys : List (Int × Int)} (hn : n ≤ 1000000) (hD : DqAt bx m n st r) (hk : k < m) (hj : j < m) (hs : st k = xs ++ (x, z) :: ys) (hO : Owned w0 w (r ++ F)) :
    Calls Try.prog 57 #[.pointer (some ⟨bx, 0, none⟩), .int .i64 x, .int .i64 (j : Int)] w fun e w' => e = .returned (.int .i64 0) ∧ ∃ r', DqAt bx m n (updS (updS st k (xs ++ ys)) j (updS st k (xs ++ ys) j ++ [(x, z)])) r' ∧ Owned w0 w' (r' ++ F) := by
  obtain ⟨v, bm, q, L, S, nx, pv, li, id, wt, LW, LN, f, o, h, hst⟩ := hD
  obtain ⟨-, c1⟩ := h.cx hO
  obtain ⟨b, us, ts, hS, rfl, rfl, rfl, rfl, hf⟩ := h.f_some hst hk hs
  have hbS : b ∈ S k := by rw [hS]; simp
  have hir := h.l.ir k hk b hbS
  have hl := h.map.look (hO.drew.look_at h.om).2 (wfk_id ⟨hir.1, hir.2.1⟩)
  rw [hf] at hl
  unfold toP nptr at hl
  have HU := Lib.hid (dq_row_some h hj hO.drew)
  obtain ⟨p1, p2, -, -⟩ := h.l.prev_node hk hS
  obtain ⟨l1, l2, l3⟩ := h.lens hn hk
  have hn1 : 1 ≤ LN k := by rw [h.l.ln k hk, hS]; simp; omega
  have CU := Lib.hid (unlink_calls h.l.nodes ⟨k, hk, hbS⟩ hk (h.l.li_ k hk b hbS) p1 p2 hir.2.2.1 hir.2.2.2 l2 l3 hn1 l1 hO.drew)
  have hlen : ∀ LN' : Nat → Nat, (∀ i, i < m → LN' i = ((updS S k (us ++ ts)) i).length) → LN' j ≤ 1000000 := by
    intro LN' hh
    rw [hh j hj]
    have h1 := totl_ge S m hj
    have h2 := h.tot
    by_cases e : j = k
    · subst e
      rw [updS_same]
      rw [hS] at h1
      simp only [List.length_append, List.length_cons] at h1 ⊢
      omega
    · rw [updS_ne _ _ e]
      omega
  have HLEN := Lib.hid hlen
  have H := Lib.hid h
  have HST := Lib.hid (st_moved (k := k) (j := j) (b := b) (us := us) (ts := ts) hst)
  have HS := Lib.hid hS
  have HIR := Lib.hid hir
  clear h hst hS hs hf hO hbS hir p1 p2 l1 l2 l3 hn1 hlen
  go_enter Try.func57, Try.ntmps57
  go_wp2_with fail
  go_region_with ((go_at_call 52; (with_reducible refine (HU.out).mono ?_); rintro e w5 ⟨rfl, rfl⟩))
  all_goals
    go_wp2_with fail
    go_at_call 76
    refine (CU.out).mono ?_
    rintro e w1 ⟨rfl, r1, hN1, hO1⟩
    have hl1 := H.out.l.unlink hk HS.out hN1
    have hnb : ∀ i, i < m → b ∉ updS S k (us ++ ts) i := fun i hi hc => by
      have h1 := mem_upd_un HS.out hc
      by_cases e : i = k
      · subst e
        rw [updS_same] at hc
        have hnd := H.out.l.nd i hi
        rw [HS.out] at hnd
        exact not_mid hnd hc
      · exact H.out.l.dj i k hi hk e b h1 (by rw [HS.out]; simp)
    have hbS : b ∈ S k := by rw [HS.out]; simp
    have hraw := hN1.el b ⟨k, hk, hbS⟩
    have hX : ∀ p ∈ (bm, o) :: (bx, LoO v bm) :: q, p.1 ≠ b := fun p hp e => (H.out.l.nodes.oth p hp).2 (Or.inl ⟨k, hk, e ▸ hbS⟩)
    have hbl : ∀ i, i < m → b ≠ L i := fun i hi => H.out.l.ne hi hk hbS
    have HP := Lib.hid (dql_push hl1 hj hraw hnb hX hbl HIR.out (HLEN.out _ hl1.ln) hO1)
    clear hl1 hnb hraw hX hbl hN1 hO1 CU HIR HLEN hbS
    go_wp2_with fail
    go_at_call 54
    refine (HP.out).mono ?_
    rintro e w2 ⟨rfl, nx', pv', li', LW', LN', r2, hl2, hO2⟩
    rw [updI_self, updI_self] at hl2
    have HR := Lib.hid (show ∃ r', DqAt bx m n (updS (updS st k (us.map (fun b => (id b, wt b)) ++ ts.map (fun b => (id b, wt b)))) j (updS st k (us.map (fun b => (id b, wt b)) ++ ts.map (fun b => (id b, wt b))) j ++ [(id b, wt b)])) r' ∧ Owned w0 w2 (r' ++ F) from
      ⟨r2, ⟨_, _, _, _, _, _, _, _, _, _, _, _, _, _, H.out.moved hk hj HS.out hl2, HST.out⟩, hO2⟩)
    clear hl2 hO2 HP H HST HS
    go_wp2_with fail
    go_ret
    exact ⟨rfl, HR.out⟩
end
end Go.Proofs.Ytnhdjpeadhcajaa
namespace Go.Proofs.Ytnhdjpeadhcajaa
open Go.RowKit Go.Sep DqPure
set_option maxRecDepth 100000
section
variable {X : Own} {m n bx bm : Nat} {L : Nat → Nat} {B : Nat → Prop} {S : Nat → List Nat} {nx pv li : Nat → Nat} {id wt : Nat → Int} {LW : Nat → Int} {LN : Nat → Nat} {r r' F : Own} {w0 w : World} {st : Nat → List (Int × Int)}
theorem DqL.reweigh {k b : Nat} {y : Int} {us ts : List Nat} (h : DqL X m L S nx pv li id wt LW LN r) (hk : k < m) (hS : S k = us ++ b :: ts) (hy : 0 ≤ y ∧ y ≤ 2147483648)
    (hN : Nodes X m L (inS m S) nx pv li id (updI wt b y) (updI LW k (LW k + (y - wt b))) LN r') : DqL X m L S nx pv li id (updI wt b y) (updI LW k (LW k + (y - wt b))) LN r' := by
  have hbS : b ∈ S k := by rw [hS]; simp
  have hnd := h.nd k hk
  rw [hS] at hnd
  have hnm := not_mid hnd
  refine ⟨hN, h.seg, h.nd, h.dj, h.li_, fun j hj c hc => ?_, fun j hj => ?_, h.ln⟩
  · have h1 := h.ir j hj c hc
    by_cases e : c = b
    · rw [e, updI_same]
      rw [e] at h1
      exact ⟨h1.1, h1.2.1, hy.1, hy.2⟩
    · rw [updI_ne _ _ e]
      exact h1
  · by_cases e : j = k
    · subst e
      have e1 : wsum (updI wt b y) us = wsum wt us := wsum_congr (fun c hc => updI_ne _ _ (fun e => hnm (by rw [← e]; simp [hc])))
      have e2 : wsum (updI wt b y) ts = wsum wt ts := wsum_congr (fun c hc => updI_ne _ _ (fun e => hnm (by rw [← e]; simp [hc])))
      rw [updI_same, h.lw j hj, hS, wsum_append, wsum_append, wsum, wsum, updI_same, e1, e2]
      omega
    · rw [updI_ne _ _ e, h.lw j hj]
      exact (wsum_congr (wt := wt) (wt' := updI wt b y) (fun c hc => updI_ne wt y (fun e2 : c = b => h.dj j k hj hk e c hc (by rw [e2]; exact hbS)))).symm
theorem DqIn.reweighed {v : Value} {q r1 : Own} {f : Int → Nat} {o : Obj} {LW' wt' : Nat → Int} (h : DqIn bx m n v bm q L S nx pv li id wt LW LN f o r)
    (hl : DqL ((bm, o) :: (bx, LoO v bm) :: q) m L S nx pv li id wt' LW' LN r1) : DqIn bx m n v bm q L S nx pv li id wt' LW' LN f o r1 :=
  ⟨hl, h.xn, h.row, h.m16, h.map, h.fm, h.fc, h.tot⟩
theorem st_reweighed {k b : Nat} {y : Int} {us ts : List Nat} (hk : k < m) (hS : S k = us ++ b :: ts) (hnd : (us ++ b :: ts).Nodup) (hdj : ∀ j, j < m → j ≠ k → b ∉ S j) (hst : ∀ j, j < m → st j = (S j).map (fun b => (id b, wt b))) :
    ∀ j, j < m → updS st k (us.map (fun b => (id b, wt b)) ++ (id b, y) :: ts.map (fun b => (id b, wt b))) j = (S j).map (fun c => (id c, updI wt b y c)) := by
  have hnm := not_mid hnd
  intro j hj
  by_cases e : j = k
  · subst e
    rw [updS_same, hS, List.map_append, List.map_cons, updI_same]
    have e1 : us.map (fun c => (id c, updI wt b y c)) = us.map (fun b => (id b, wt b)) := List.map_congr_left (fun c hc => by rw [updI_ne _ _ (fun e => hnm (by rw [← e]; simp [hc]))])
    have e2 : ts.map (fun c => (id c, updI wt b y c)) = ts.map (fun b => (id b, wt b)) := List.map_congr_left (fun c hc => by rw [updI_ne _ _ (fun e => hnm (by rw [← e]; simp [hc]))])
    rw [e1, e2]
  · rw [updS_ne _ _ e, hst j hj]
    exact (List.map_congr_left (fun c hc => by rw [updI_ne wt y (fun e2 : c = b => hdj j hj e (by rw [← e2]; exact hc))])).symm
set_option maxHeartbeats 1600000 in
theorem dq_reweigh_none {x y : Int} (hD : DqAt bx m n st r) (hx : wfk x) (ha : Absent m st x) (hO : Owned w0 w (r ++ F)) :
    Calls Try.prog 30 #[.pointer (some ⟨bx, 0, none⟩), .int .i64 x, .int .i64 y] w fun e w' => e = .returned (.int .i64 3) ∧ Below w.heap.size w w' := by
  obtain ⟨v, bm, q, L, S, nx, pv, li, id, wt, LW, LN, f, o, h, hst⟩ := hD
  obtain ⟨-, c1⟩ := h.cx hO
  have hl := h.map.look (hO.look_at h.om).2 hx
  rw [h.f_none hst ha] at hl
  unfold toP at hl
  clear h hO hst ha hx
  go_enter Try.func30, Try.ntmps30
  go_wp2_with fail
  go_ret
  exact ⟨rfl, Below.refl _ _⟩
set_option maxHeartbeats 1600000 in
theorem dq_reweigh_bad {k : Nat} {x z y : Int} {xs ys : List (Int × Int)} (hD : DqAt bx m n st r) (hk : k < m) (hs : st k = xs ++ (x, z) :: ys) (hy : ¬ (0 ≤ y ∧ y ≤ 2147483648)) (hO : Owned w0 w (r ++ F)) :
    Calls Try.prog 30 #[.pointer (some ⟨bx, 0, none⟩), .int .i64 x, .int .i64 y] w fun e w' => e = .returned (.int .i64 1) ∧ Below w.heap.size w w' := by
  obtain ⟨v, bm, q, L, S, nx, pv, li, id, wt, LW, LN, f, o, h, hst⟩ := hD
  obtain ⟨-, c1⟩ := h.cx hO
  obtain ⟨b, us, ts, hS, rfl, rfl, rfl, hwt, hf⟩ := h.f_some hst hk hs
  have hir := h.l.ir k hk b (by rw [hS]; simp)
  have hl := h.map.look (hO.look_at h.om).2 (wfk_id ⟨hir.1, hir.2.1⟩)
  rw [hf] at hl
  unfold toP nptr at hl
  have hfi := dq_fine (w := w) y
  rw [show (decide (0 ≤ y) && decide (y ≤ 2147483648)) = false by
    rw [Bool.eq_false_iff]
    intro hh
    simp only [Bool.and_eq_true, decide_eq_true_eq] at hh
    exact hy hh] at hfi
  clear h hO hst hir hS hf hs hk hy
  go_enter Try.func30, Try.ntmps30
  go_wp2_with fail
  go_at_call 53
  refine (hfi).mono ?_
  rintro e w1 ⟨rfl, rfl⟩
  go_wp2_with fail
  go_ret
  exact ⟨rfl, Below.refl _ _⟩
set_option maxHeartbeats 1600000 in
theorem dq_reweigh_some {k : Nat} {x z y : Int} {xs ys : List (Int × Int)} (hn : n ≤ 1000000) (hD : DqAt bx m n st r) (hk : k < m) (hs : st k = xs ++ (x, z) :: ys) (hy : 0 ≤ y ∧ y ≤ 2147483648) (hO : Owned w0 w (r ++ F)) :
    Calls Try.prog 30 #[.pointer (some ⟨bx, 0, none⟩), .int .i64 x, .int .i64 y] w fun e w' => e = .returned (.int .i64 0) ∧ ∃ r', DqAt bx m n (updS st k (xs ++ (x, y) :: ys)) r' ∧ Owned w0 w' (r' ++ F) := by
  obtain ⟨v, bm, q, L, S, nx, pv, li, id, wt, LW, LN, f, o, h, hst⟩ := hD
  obtain ⟨-, c1⟩ := h.cx hO
  obtain ⟨b, us, ts, hS, rfl, rfl, rfl, rfl, hf⟩ := h.f_some hst hk hs
  have hbS : b ∈ S k := by rw [hS]; simp
  have hir := h.l.ir k hk b hbS
  have hl := h.map.look (hO.look_at h.om).2 (wfk_id ⟨hir.1, hir.2.1⟩)
  rw [hf] at hl
  unfold toP nptr at hl
  have hfi := dq_fine (w := w) y
  rw [show (decide (0 ≤ y) && decide (y ≤ 2147483648)) = true by simp [hy.1, hy.2]] at hfi
  obtain ⟨l1, l2, l3⟩ := h.lens hn hk
  obtain ⟨-, e1, e2, -, -, ef⟩ := h.l.nodes.elc hO ⟨k, hk, hbS⟩
  rw [h.l.li_ k hk b hbS] at e2
  obtain ⟨-, -, -, -, d6, -, df⟩ := h.l.nodes.lsc hO hk
  have df6 := df 6
  have ef1 := ef 1
  obtain ⟨r1, hN1, hO1⟩ := h.l.nodes.lww hO hk (LW k + (y - wt b))
  obtain ⟨r2, hN2, hO2⟩ := hN1.wtw hO1 ⟨k, hk, hbS⟩ y
  have hbL := h.l.ne hk hk hbS
  have hnd := h.l.nd k hk
  rw [hS] at hnd
  have HR := Lib.hid (show ∃ r', DqAt bx m n (updS st k (us.map (fun b => (id b, wt b)) ++ (id b, y) :: ts.map (fun b => (id b, wt b)))) r' ∧ Owned w0 _ (r' ++ F) from
    ⟨r2, ⟨_, _, _, _, _, _, _, _, _, _, _, _, _, _, h.reweighed (h.l.reweigh hk hS hy hN2), st_reweighed hk hS hnd (fun j hj e hm => h.l.dj j k hj hk e b hm hbS) hst⟩, hO2⟩)
  have hwr : IntKind.i64.wrap (LW k + (y - wt b)) = LW k + (y - wt b) := by rw [IntKind.wrap_i64]; omega
  have hwr2 : IntKind.i64.wrap (y - wt b) = y - wt b := by rw [IntKind.wrap_i64]; omega
  clear h hst hS hs hf hO hbS hN1 hO1 hN2 hO2 df ef hnd l1 l2 l3 hir hy
  go_enter Try.func30, Try.ntmps30
  go_wp2_with fail
  go_at_call 53
  refine (hfi).mono ?_
  rintro e w1 ⟨rfl, rfl⟩
  go_wp2_with fail
  go_still_tail 14, (by kernel_rfl)
  go_wp2_with fail
  go_ret
  obtain ⟨r', hr', hO'⟩ := HR.out
  exact ⟨rfl, r', hr', hO'.drew⟩
end
end Go.Proofs.Ytnhdjpeadhcajaa
