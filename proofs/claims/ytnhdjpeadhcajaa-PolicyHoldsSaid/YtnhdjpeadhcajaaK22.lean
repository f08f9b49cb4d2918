/- Merged texts: Layer 7: an element is taken out by its number. -/
import Derived.Test.YtnhdjpeadhcajaaK21
namespace Go.Proofs.Ytnhdjpeadhcajaa
open Go.RowKit Go.Sep DqPure
section
variable {X : Own} {m n bx bm : Nat} {L : Nat → Nat} {B : Nat → Prop} {S : Nat → List Nat} {nx pv li : Nat → Nat} {id wt : Nat → Int} {LW : Nat → Int} {LN : Nat → Nat} {r F : Own} {w0 w : World} {st : Nat → List (Int × Int)}
theorem Nodes.turnX {o o' : Obj} (h : Nodes ((bm, o) :: X) m L B nx pv li id wt LW LN r) (hn : bm ∉ X.map (·.1)) : Nodes ((bm, o') :: X) m L B nx pv li id wt LW LN (setBk r bm o') := by
  obtain ⟨ho, hno⟩ := h.oth (bm, o) (by simp)
  refine ⟨fun k hk => ?_, fun b hb => ?_, h.dL, fun p hp => ?_⟩
  · rw [look_setBk_ne _ _ (fun e => hno (Or.inr ⟨k, hk, e.symm⟩))]
    exact h.lst k hk
  · rw [look_setBk_ne _ _ (fun e => hno (Or.inl (by rw [← show b = bm from e]; exact hb)))]
    exact h.el b hb
  · rcases List.mem_cons.1 hp with rfl | hp
    · exact ⟨look_setBk_same _ ho, hno⟩
    · obtain ⟨h1, h2⟩ := h.oth p (List.mem_cons_of_mem _ hp)
      exact ⟨(look_setBk_ne _ _ (fun e => hn (List.mem_map.2 ⟨p, hp, e⟩))).trans h1, h2⟩
theorem DqL.turnX {o o' : Obj} (h : DqL ((bm, o) :: X) m L S nx pv li id wt LW LN r) (hn : bm ∉ X.map (·.1)) : DqL ((bm, o') :: X) m L S nx pv li id wt LW LN (setBk r bm o') :=
  ⟨h.nodes.turnX hn, h.seg, h.nd, h.dj, h.li_, h.ir, h.lw, h.ln⟩
theorem wfk_id {x : Int} (h : 1 ≤ x ∧ x ≤ 65536) : wfk x := wfk_of (by omega) (by omega)
theorem mem_upd_un {k j b c : Nat} {us ts : List Nat} (hS : S k = us ++ b :: ts) (hc : c ∈ updS S k (us ++ ts) j) : c ∈ S j := by
  by_cases e : j = k
  · subst e
    rw [updS_same] at hc
    rw [hS]
    simp only [List.mem_append, List.mem_cons] at hc ⊢
    rcases hc with hc | hc
    · exact Or.inl hc
    · exact Or.inr (Or.inr hc)
  · rw [updS_ne _ _ e] at hc
    exact hc
/-- numbers tell elements apart -/
theorem DqIn.id_ne {v : Value} {q : Own} {f : Int → Nat} {o : Obj} (h : DqIn bx m n v bm q L S nx pv li id wt LW LN f o r) {j k b c : Nat} (hj : j < m) (hk : k < m) (hb : b ∈ S j) (hc : c ∈ S k) (hne : b ≠ c) : id b ≠ id c := by
  intro e
  have h1 := h.fm j hj b hb
  have h2 := h.fm k hk c hc
  rw [e, h2] at h1
  omega
theorem not_mid {b : Nat} {us ts : List Nat} (h : (us ++ b :: ts).Nodup) : b ∉ us ++ ts := by
  rw [List.nodup_append] at h
  obtain ⟨-, h2, h3⟩ := h
  intro hm
  rcases List.mem_append.1 hm with hm | hm
  · exact h3 b hm b (by simp) rfl
  · exact (List.nodup_cons.1 h2).1 hm
theorem DqIn.unlinked {v : Value} {q r1 : Own} {f : Int → Nat} {o o' : Obj} {k b : Nat} {us ts : List Nat} (h : DqIn bx m n v bm q L S nx pv li id wt LW LN f o r) (hk : k < m) (hS : S k = us ++ b :: ts)
    {nx' pv' : Nat → Nat} {LW' : Nat → Int} {LN' : Nat → Nat} (hl : DqL ((bm, o) :: (bx, LoO v bm) :: q) m L (updS S k (us ++ ts)) nx' pv' li id wt LW' LN' r1) (hM : OfMap n (updF f (id b) 0) o') :
    DqIn bx m n v bm q L (updS S k (us ++ ts)) nx' pv' li id wt LW' LN' (updF f (id b) 0) o' (setBk r1 bm o') := by
  have hbS : b ∈ S k := by rw [hS]; simp
  have hnd := h.l.nd k hk
  rw [hS] at hnd
  have hnb : ∀ j, j < m → ∀ c ∈ updS S k (us ++ ts) j, c ≠ b := fun j hj c hc e => by
    have h1 := mem_upd_un hS hc
    by_cases e2 : j = k
    · subst e2
      rw [updS_same] at hc
      exact not_mid hnd (e ▸ hc)
    · exact h.l.dj j k hj hk e2 c h1 (e ▸ hbS)
  refine ⟨hl.turnX (List.nodup_cons.1 h.xn).1, h.xn, h.row, h.m16, hM, fun j hj c hc => ?_, fun x hx => ?_, ?_⟩
  · rw [updF_ne _ _ (h.id_ne hj hk (mem_upd_un hS hc) hbS (hnb j hj c hc))]
    exact h.fm j hj c (mem_upd_un hS hc)
  · by_cases e : x = id b
    · subst e
      rw [updF_same] at hx
      exact absurd rfl hx
    · rw [updF_ne _ _ e] at hx ⊢
      obtain ⟨j, c, hj, hc, h1, h2⟩ := h.fc x hx
      refine ⟨j, c, hj, ?_, h1, h2⟩
      by_cases e2 : j = k
      · subst e2
        rw [updS_same]
        rw [hS] at hc
        simp only [List.mem_append, List.mem_cons] at hc ⊢
        rcases hc with hc | hc | hc
        · exact Or.inl hc
        · exact absurd (by rw [← h2, hc]) e
        · exact Or.inr hc
      · rw [updS_ne _ _ e2]
        exact hc
  · have h1 := totl_upd S (us ++ ts) m hk
    rw [hS] at h1
    simp only [List.length_append, List.length_cons] at h1
    have h2 := h.tot
    omega
theorem st_unlinked {k : Nat} {us ts : List Nat} (hst : ∀ j, j < m → st j = (S j).map (fun b => (id b, wt b))) : ∀ j, j < m → updS st k ((us.map (fun b => (id b, wt b))) ++ ts.map (fun b => (id b, wt b))) j = (updS S k (us ++ ts) j).map (fun b => (id b, wt b)) := by
  intro j hj
  by_cases e : j = k
  · subst e
    rw [updS_same, updS_same, List.map_append]
  · rw [updS_ne _ _ e, updS_ne _ _ e]
    exact hst j hj
theorem DqIn.lens {v : Value} {q : Own} {f : Int → Nat} {o : Obj} (h : DqIn bx m n v bm q L S nx pv li id wt LW LN f o r) (hn : n ≤ 1000000) {k : Nat} (hk : k < m) : LN k ≤ 1000000 ∧ 0 ≤ LW k ∧ LW k ≤ 4611686018427387904 := by
  have h1 := totl_ge S m hk
  have h2 := h.tot
  have h3 := wsum_bd (wt := wt) (xs := S k) (fun b hb => (h.l.ir k hk b hb).2.2)
  rw [h.l.ln k hk, h.l.lw k hk]
  omega
set_option maxHeartbeats 1600000 in
theorem dq_unlink_none {x : Int} (hD : DqAt bx m n st r) (hx : wfk x) (ha : Absent m st x) (hO : Owned w0 w (r ++ F)) :
    Calls Try.prog 58 #[.pointer (some ⟨bx, 0, none⟩), .int .i64 x] w fun e w' => e = .returned (.int .i64 3) ∧ Below w.heap.size w w' := by
  obtain ⟨v, bm, q, L, S, nx, pv, li, id, wt, LW, LN, f, o, h, hst⟩ := hD
  obtain ⟨-, c1⟩ := h.cx hO
  have hl := h.map.look (hO.look_at h.om).2 hx
  rw [h.f_none hst ha] at hl
  unfold toP at hl
  clear h hO hst ha hx
  go_enter Try.func58, Try.ntmps58
  go_wp2_with fail
  go_ret
  exact ⟨rfl, Below.refl _ _⟩
set_option maxHeartbeats 1600000 in
theorem dq_unlink_some {k : Nat} {x z : Int} {xs ys : List (Int × Int)} (hn : n ≤ 1000000) (hD : DqAt bx m n st r) (hk : k < m) (hs : st k = xs ++ (x, z) :: ys) (hO : Owned w0 w (r ++ F)) :
    Calls Try.prog 58 #[.pointer (some ⟨bx, 0, none⟩), .int .i64 x] w fun e w' => e = .returned (.int .i64 0) ∧ ∃ r', DqAt bx m n (updS st k (xs ++ ys)) r' ∧ Owned w0 w' (r' ++ F) := by
  obtain ⟨v, bm, q, L, S, nx, pv, li, id, wt, LW, LN, f, o, h, hst⟩ := hD
  obtain ⟨-, c1⟩ := h.cx hO
  obtain ⟨b, us, ts, hS, rfl, rfl, rfl, hwt, hf⟩ := h.f_some hst hk hs
  have hbS : b ∈ S k := by rw [hS]; simp
  have hir := h.l.ir k hk b hbS
  have hx := wfk_id ⟨hir.1, hir.2.1⟩
  have hl := h.map.look (hO.look_at h.om).2 hx
  rw [hf] at hl
  unfold toP nptr at hl
  obtain ⟨p1, p2, -, -⟩ := h.l.prev_node hk hS
  obtain ⟨l1, l2, l3⟩ := h.lens hn hk
  have hn1 : 1 ≤ LN k := by rw [h.l.ln k hk, hS]; simp; omega
  have CU := Lib.hid (unlink_calls h.l.nodes ⟨k, hk, hbS⟩ hk (h.l.li_ k hk b hbS) p1 p2 hir.2.2.1 hir.2.2.2 l2 l3 hn1 l1 hO)
  have H := Lib.hid h
  have HST := Lib.hid (st_unlinked (k := k) (us := us) (ts := ts) hst)
  have HS := Lib.hid hS
  have HX := Lib.hid hx
  clear h hst hS hs hf hO hbS hir hx p1 p2 l1 l2 l3 hn1
  go_enter Try.func58, Try.ntmps58
  go_wp2_with fail
  go_at_call 76
  refine (CU.out).mono ?_
  rintro e w1 ⟨rfl, r1, hN1, hO1⟩
  have hl1 := H.out.l.unlink hk HS.out hN1
  have c2 : w1.cell? ⟨bx, 1, none⟩ = some (.map (some bm)) := ((hO1.look_cell (hl1.nodes.oth (bx, LoO v bm) (by simp)).1) 1).trans rfl
  have om := (hl1.nodes.oth (bm, o) (by simp)).1
  have HL1 := Lib.hid hl1
  have HO1 := Lib.hid hO1
  have HOM := Lib.hid om
  clear hl1 hN1 hO1 om hl c1 CU
  go_wp2_with (at_delete; refine wp_delete rfl _ _ rfl rfl rfl H.out.map HO1.out HOM.out HX.out ?_; intro w2 o2 hM2 hO2; have HM2 := Lib.hid hM2; have HO2 := Lib.hid hO2; clear hM2 hO2)
  go_ret
  exact ⟨rfl, _, ⟨_, _, _, _, _, _, _, _, _, _, _, _, _, _, H.out.unlinked hk HS.out HL1.out HM2.out, HST.out⟩, HO2.out⟩
end
end Go.Proofs.Ytnhdjpeadhcajaa
