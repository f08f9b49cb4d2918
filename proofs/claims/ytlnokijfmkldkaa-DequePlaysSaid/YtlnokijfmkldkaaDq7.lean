/- Layer 7: an element is moved, or weighs something else. -/
import Derived.Test.YtlnokijfmkldkaaDq6
namespace Go.Proofs.Ytlnokijfmkldkaa
open Go.RowKit Go.Sep DqPure
section
variable {X : Own} {m n bx bm : Nat} {L : Nat → Nat} {B : Nat → Prop} {S : Nat → List Nat} {nx pv li : Nat → Nat} {id wt : Nat → Int} {LW : Nat → Int} {LN : Nat → Nat} {r F : Own} {w0 w : World} {st : Nat → List (Int × Int)}
theorem DqIn.moved {v : Value} {q r1 : Own} {f : Int → Nat} {o : Obj} {k j b : Nat} {us ts : List Nat} (h : DqIn bx m n v bm q L S nx pv li id wt LW LN f o r) (hk : k < m) (hj : j < m) (hS : S k = us ++ b :: ts)
    {nx' pv' li' : Nat → Nat} {LW' : Nat → Int} {LN' : Nat → Nat} (hl : DqL ((bm, o) :: (bx, LoO v bm) :: q) m L (updS (updS S k (us ++ ts)) j (updS S k (us ++ ts) j ++ [b])) nx' pv' li' id wt LW' LN' r1) :
    DqIn bx m n v bm q L (updS (updS S k (us ++ ts)) j (updS S k (us ++ ts) j ++ [b])) nx' pv' li' id wt LW' LN' f o r1 := by
  have hbS : b ∈ S k := by rw [hS]; simp
  refine ⟨hl, h.xn, h.row, h.m16, h.map, fun i hi c hc => ?_, fun y hy => ?_, ?_⟩
  · rcases mem_upd_push hc with hc | ⟨hc, -⟩
    · exact h.fm i hi c (mem_upd_un hS hc)
    · rw [hc]; exact h.fm k hk b hbS
  · obtain ⟨i, c, hi, hc, h1, h2⟩ := h.fc y hy
    by_cases e : c = b
    · exact ⟨j, c, hj, by rw [updS_same, e]; simp, h1, h2⟩
    · refine ⟨i, c, hi, mem_upd_old ?_, h1, h2⟩
      by_cases e2 : i = k
      · subst e2
        rw [updS_same]
        rw [hS] at hc
        simp only [List.mem_append, List.mem_cons] at hc ⊢
        rcases hc with hc | hc | hc
        · exact Or.inl hc
        · exact absurd hc e
        · exact Or.inr hc
      · rw [updS_ne _ _ e2]
        exact hc
  · have h1 := totl_upd S (us ++ ts) m hk
    have h2 := totl_upd (updS S k (us ++ ts)) (updS S k (us ++ ts) j ++ [b]) m hj
    rw [hS] at h1
    simp only [List.length_append, List.length_cons, List.length_nil] at h1 h2
    have h3 := h.tot
    omega
set_option maxHeartbeats 1600000 in
theorem dq_move_none {x k : Int} (hD : DqAt bx m n st r) (hx : wfk x) (ha : Absent m st x) (hO : Owned w0 w (r ++ F)) :
    Calls Try.prog 17 #[.pointer (some ⟨bx, 0, none⟩), .int .i64 x, .int .i64 k] w fun e w' => e = .returned (.int .i64 3) ∧ Below w.heap.size w w' := by
  obtain ⟨v, bm, q, L, S, nx, pv, li, id, wt, LW, LN, f, o, h, hst⟩ := hD
  obtain ⟨-, c1⟩ := h.cx hO
  have hl := h.map.look (hO.drew.look_at h.om).2 hx
  rw [h.f_none hst ha] at hl
  unfold toP at hl
  obtain ⟨u, hu⟩ : ∃ u, Calls Try.prog 28 #[.pointer (some ⟨bx, 0, none⟩), .int .i64 k] w.drew fun e w' => e = .returned (.pointer u) ∧ w' = w.drew := by
    by_cases hk : 0 ≤ k ∧ k < (m : Int)
    · obtain ⟨k, rfl⟩ : ∃ j : Nat, k = (j : Int) := ⟨k.toNat, by omega⟩
      exact ⟨_, dq_row_some h (by omega) hO.drew⟩
    · exact ⟨_, dq_row_none h (bad_row hk) hO.drew⟩
  have HU := Lib.hid hu
  clear h hO hst ha hx hu
  go_enter Try.func17, Try.ntmps17
  go_wp2_with fail
  go_region_with ((go_at_call 28; (with_reducible refine (HU.out).mono ?_); rintro e w5 ⟨rfl, rfl⟩))
  all_goals go_wp2_with fail
  all_goals go_ret
  all_goals exact ⟨rfl, (Below.refl _ _).drew⟩
set_option maxHeartbeats 1600000 in
theorem dq_move_bad {j : Nat} {x z k : Int} {xs ys : List (Int × Int)} (hD : DqAt bx m n st r) (hj : j < m) (hs : st j = xs ++ (x, z) :: ys) (hk : ¬ (0 ≤ k ∧ k < (m : Int))) (hO : Owned w0 w (r ++ F)) :
    Calls Try.prog 17 #[.pointer (some ⟨bx, 0, none⟩), .int .i64 x, .int .i64 k] w fun e w' => e = .returned (.int .i64 1) ∧ Below w.heap.size w w' := by
  obtain ⟨v, bm, q, L, S, nx, pv, li, id, wt, LW, LN, f, o, h, hst⟩ := hD
  obtain ⟨-, c1⟩ := h.cx hO
  obtain ⟨b, us, ts, hS, rfl, rfl, rfl, hwt, hf⟩ := h.f_some hst hj hs
  have hir := h.l.ir j hj b (by rw [hS]; simp)
  have hl := h.map.look (hO.drew.look_at h.om).2 (wfk_id ⟨hir.1, hir.2.1⟩)
  rw [hf] at hl
  unfold toP nptr at hl
  have HU := Lib.hid (dq_row_none h (bad_row hk) hO.drew)
  clear h hO hst hir hS hf hs hk
  go_enter Try.func17, Try.ntmps17
  go_wp2_with fail
  go_region_with ((go_at_call 28; (with_reducible refine (HU.out).mono ?_); rintro e w5 ⟨rfl, rfl⟩))
  all_goals go_wp2_with fail
  all_goals go_ret
  all_goals exact ⟨rfl, (Below.refl _ _).drew⟩
theorem st_moved {k j b : Nat} {us ts : List Nat} (hst : ∀ j, j < m → st j = (S j).map (fun b => (id b, wt b))) :
    ∀ i, i < m → updS (updS st k (us.map (fun b => (id b, wt b)) ++ ts.map (fun b => (id b, wt b)))) j (updS st k (us.map (fun b => (id b, wt b)) ++ ts.map (fun b => (id b, wt b))) j ++ [(id b, wt b)]) i
      = (updS (updS S k (us ++ ts)) j (updS S k (us ++ ts) j ++ [b]) i).map (fun b => (id b, wt b)) := by
  intro i hi
  have h1 := st_unlinked (k := k) (us := us) (ts := ts) hst
  by_cases e : i = j
  · subst e
    rw [updS_same, updS_same, List.map_append, h1 i hi]
    rfl
  · rw [updS_ne _ _ e, updS_ne _ _ e]
    exact h1 i hi
set_option maxHeartbeats 1600000 in
theorem dq_move_some {k j : Nat} {x z : Int} {xs ys : List (Int × Int)} (hn : n ≤ 1000000) (hD : DqAt bx m n st r) (hk : k < m) (hj : j < m) (hs : st k = xs ++ (x, z) :: ys) (hO : Owned w0 w (r ++ F)) :
    Calls Try.prog 17 #[.pointer (some ⟨bx, 0, none⟩), .int .i64 x, .int .i64 (j : Int)] w fun e w' => e = .returned (.int .i64 0) ∧ ∃ r', DqAt bx m n (updS (updS st k (xs ++ ys)) j (updS st k (xs ++ ys) j ++ [(x, z)])) r' ∧ Owned w0 w' (r' ++ F) := by
  obtain ⟨v, bm, q, L, S, nx, pv, li, id, wt, LW, LN, f, o, h, hst⟩ := hD
  obtain ⟨-, c1⟩ := h.cx hO
  obtain ⟨b, us, ts, hS, rfl, rfl, rfl, rfl, hf⟩ := h.f_some hst hk hs
  have hbS : b ∈ S k := by rw [hS]; simp
  have hir := h.l.ir k hk b hbS
  have hl := h.map.look (hO.drew.look_at h.om).2 (wfk_id ⟨hir.1, hir.2.1⟩)
  rw [hf] at hl
  unfold toP nptr at hl
  have HU := Lib.hid (dq_row_some h hj hO.drew)
  obtain ⟨p1, p2, -, -⟩ := h.l.prev_node hk hS
  obtain ⟨l1, l2, l3⟩ := h.lens hn hk
  have hn1 : 1 ≤ LN k := by rw [h.l.ln k hk, hS]; simp; omega
  have CU := Lib.hid (unlink_calls h.l.nodes ⟨k, hk, hbS⟩ hk (h.l.li_ k hk b hbS) p1 p2 hir.2.2.1 hir.2.2.2 l2 l3 hn1 l1 hO.drew)
  have hlen : ∀ LN' : Nat → Nat, (∀ i, i < m → LN' i = ((updS S k (us ++ ts)) i).length) → LN' j ≤ 1000000 := by
    intro LN' hh
    rw [hh j hj]
    have h1 := totl_ge S m hj
    have h2 := h.tot
    by_cases e : j = k
    · subst e
      rw [updS_same]
      rw [hS] at h1
      simp only [List.length_append, List.length_cons] at h1 ⊢
      omega
    · rw [updS_ne _ _ e]
      omega
  have HLEN := Lib.hid hlen
  have H := Lib.hid h
  have HST := Lib.hid (st_moved (k := k) (j := j) (b := b) (us := us) (ts := ts) hst)
  have HS := Lib.hid hS
  have HIR := Lib.hid hir
  clear h hst hS hs hf hO hbS hir p1 p2 l1 l2 l3 hn1 hlen
  go_enter Try.func17, Try.ntmps17
  go_wp2_with fail
  go_region_with ((go_at_call 28; (with_reducible refine (HU.out).mono ?_); rintro e w5 ⟨rfl, rfl⟩))
  all_goals
    go_wp2_with fail
    go_at_call 31
    refine (CU.out).mono ?_
    rintro e w1 ⟨rfl, r1, hN1, hO1⟩
    have hl1 := H.out.l.unlink hk HS.out hN1
    have hnb : ∀ i, i < m → b ∉ updS S k (us ++ ts) i := fun i hi hc => by
      have h1 := mem_upd_un HS.out hc
      by_cases e : i = k
      · subst e
        rw [updS_same] at hc
        have hnd := H.out.l.nd i hi
        rw [HS.out] at hnd
        exact not_mid hnd hc
      · exact H.out.l.dj i k hi hk e b h1 (by rw [HS.out]; simp)
    have hbS : b ∈ S k := by rw [HS.out]; simp
    have hraw := hN1.el b ⟨k, hk, hbS⟩
    have hX : ∀ p ∈ (bm, o) :: (bx, LoO v bm) :: q, p.1 ≠ b := fun p hp e => (H.out.l.nodes.oth p hp).2 (Or.inl ⟨k, hk, e ▸ hbS⟩)
    have hbl : ∀ i, i < m → b ≠ L i := fun i hi => H.out.l.ne hi hk hbS
    have HP := Lib.hid (dql_push hl1 hj hraw hnb hX hbl HIR.out (HLEN.out _ hl1.ln) hO1)
    clear hl1 hnb hraw hX hbl hN1 hO1 CU HIR HLEN hbS
    go_wp2_with fail
    go_at_call 30
    refine (HP.out).mono ?_
    rintro e w2 ⟨rfl, nx', pv', li', LW', LN', r2, hl2, hO2⟩
    rw [updI_self, updI_self] at hl2
    have HR := Lib.hid (show ∃ r', DqAt bx m n (updS (updS st k (us.map (fun b => (id b, wt b)) ++ ts.map (fun b => (id b, wt b)))) j (updS st k (us.map (fun b => (id b, wt b)) ++ ts.map (fun b => (id b, wt b))) j ++ [(id b, wt b)])) r' ∧ Owned w0 w2 (r' ++ F) from
      ⟨r2, ⟨_, _, _, _, _, _, _, _, _, _, _, _, _, _, H.out.moved hk hj HS.out hl2, HST.out⟩, hO2⟩)
    clear hl2 hO2 HP H HST HS
    go_wp2_with fail
    go_ret
    exact ⟨rfl, HR.out⟩
end
end Go.Proofs.Ytlnokijfmkldkaa
