/- Merged texts: Layer 7: a new element at a row's end. -/
import Derived.Test.YtnhdjpeadhcajaaK22
namespace Go.Proofs.Ytnhdjpeadhcajaa
open Go.RowKit Go.Sep DqPure
section
variable {X : Own} {m n bx bm : Nat} {L : Nat → Nat} {B : Nat → Prop} {S : Nat → List Nat} {nx pv li : Nat → Nat} {id wt : Nat → Int} {LW : Nat → Int} {LN : Nat → Nat} {r F : Own} {w0 w : World} {st : Nat → List (Int × Int)}
theorem Nodes.cons {b : Nat} {o : Obj} (h : Nodes X m L B nx pv li id wt LW LN r) (hf : ∀ c u, lookB r c = some u → c ≠ b) : Nodes X m L B nx pv li id wt LW LN ((b, o) :: r) := by
  refine ⟨fun k hk => ?_, fun c hc => ?_, h.dL, fun p hp => ⟨?_, (h.oth p hp).2⟩⟩
  · rw [look_cons_ne (Ne.symm (hf _ _ (h.lst k hk)))]
    exact h.lst k hk
  · rw [look_cons_ne (Ne.symm (hf _ _ (h.el c hc)))]
    exact h.el c hc
  · rw [look_cons_ne (Ne.symm (hf _ _ (h.oth p hp).1))]
    exact (h.oth p hp).1
theorem DqL.cons {b : Nat} {o : Obj} (h : DqL X m L S nx pv li id wt LW LN r) (hf : ∀ c u, lookB r c = some u → c ≠ b) : DqL X m L S nx pv li id wt LW LN ((b, o) :: r) :=
  ⟨h.nodes.cons hf, h.seg, h.nd, h.dj, h.li_, h.ir, h.lw, h.ln⟩
theorem DqL.last_node (h : DqL X m L S nx pv li id wt LW LN r) {k : Nat} (hk : k < m) : isNode m L (inS m S) (pv (L k)) := by
  rw [(h.seg k hk).last]
  rcases List.mem_cons.1 (lst_mem (S k) (L k)) with e | hm
  · exact Or.inr ⟨k, hk, e⟩
  · exact Or.inl ⟨k, hk, hm⟩
theorem isNode_or {b c : Nat} (h : isNode m L B c) : isNode m L (fun d => B d ∨ d = b) c := by
  rcases h with h | h
  · exact Or.inl (Or.inl h)
  · exact Or.inr h
/-- push, over the rows -/
theorem dql_push {b k : Nat} {i x : Int} {vl vp vn : Option Addr} (h : DqL X m L S nx pv li id wt LW LN r) (hk : k < m) (hraw : lookB r b = some (.cells #[.int .i64 i, .int .i64 x, .pointer vl, .pointer vp, .pointer vn] 88 (0, 0)))
    (hb : ∀ j, j < m → b ∉ S j) (hX : ∀ p ∈ X, p.1 ≠ b) (hbl : ∀ j, j < m → b ≠ L j) (hi : 1 ≤ i ∧ i ≤ 65536 ∧ 0 ≤ x ∧ x ≤ 2147483648) (hlen : LN k ≤ 1000000) (hO : Owned w0 w (r ++ F)) :
    Calls Try.prog 54 #[.pointer (some ⟨L k, 0, none⟩), .pointer (some ⟨b, 0, none⟩)] w fun e w' => e = .returned (.tuple #[]) ∧
      ∃ nx' pv' li' LW' LN' r', DqL X m L (updS S k (S k ++ [b])) nx' pv' li' (updI id b i) (updI wt b x) LW' LN' r' ∧ Owned w0 w' (r' ++ F) := by
  have hT := h.nodes.take (l := L k) (p := pv (L k)) (i := i) (x := x) hraw hbl hX
  have hp := h.last_node hk
  have hw := wsum_bd (wt := wt) (xs := S k) (fun c hc => (h.ir k hk c hc).2.2)
  have hll := h.ln k hk
  have hlw := h.lw k hk
  have hc := push_calls (i := i) (x := x) (F := F) (w0 := w0) (w := w) hraw (h.nodes.lst k hk) hT (Or.inr rfl) hk (isNode_or hp) (by rw [updI_same]; omega) (by rw [updI_same]; omega) (by omega) (by omega) hlen hO
  refine hc.mono ?_
  rintro e w' ⟨rfl, r', hN, hO'⟩
  rw [updI_same] at hN
  exact ⟨rfl, _, _, _, _, _, r', h.push hk hb hbl rfl hi hN, hO'⟩
theorem mem_upd_push {k j b c : Nat} (hc : c ∈ updS S k (S k ++ [b]) j) : c ∈ S j ∨ (c = b ∧ j = k) := by
  by_cases e : j = k
  · subst e
    rw [updS_same] at hc
    simp only [List.mem_append, List.mem_singleton] at hc
    rcases hc with hc | hc
    · exact Or.inl hc
    · exact Or.inr ⟨hc, rfl⟩
  · rw [updS_ne _ _ e] at hc
    exact Or.inl hc
theorem mem_upd_old {k j b c : Nat} (hc : c ∈ S j) : c ∈ updS S k (S k ++ [b]) j := by
  by_cases e : j = k
  · subst e
    rw [updS_same]
    simp [hc]
  · rw [updS_ne _ _ e]
    exact hc
theorem st_pushed {k b : Nat} {i x : Int} (hb : ∀ j, j < m → b ∉ S j) (hst : ∀ j, j < m → st j = (S j).map (fun b => (id b, wt b))) :
    ∀ j, j < m → updS st k (st k ++ [(i, x)]) j = (updS S k (S k ++ [b]) j).map (fun c => (updI id b i c, updI wt b x c)) := by
  intro j hj
  have hc : (S j).map (fun c => (updI id b i c, updI wt b x c)) = (S j).map (fun b => (id b, wt b)) := by
    refine List.map_congr_left (fun c hc => ?_)
    have : c ≠ b := fun e => hb j hj (e ▸ hc)
    rw [updI_ne _ _ this, updI_ne _ _ this]
  by_cases e : j = k
  · subst e
    rw [updS_same, updS_same, List.map_append, hc, hst j hj, List.map_singleton, updI_same, updI_same]
  · rw [updS_ne _ _ e, updS_ne _ _ e, hc]
    exact hst j hj
theorem DqIn.pushed {v : Value} {q r1 : Own} {f : Int → Nat} {o o' : Obj} {k b : Nat} {i x : Int} (h : DqIn bx m n v bm q L S nx pv li id wt LW LN f o r) (hk : k < m) (hb : ∀ j, j < m → b ∉ S j) (hfi : f i = 0)
    {nx' pv' li' : Nat → Nat} {LW' : Nat → Int} {LN' : Nat → Nat} (hl : DqL ((bm, o') :: (bx, LoO v bm) :: q) m L (updS S k (S k ++ [b])) nx' pv' li' (updI id b i) (updI wt b x) LW' LN' r1) (hM : OfMap (n + 1) (updF f i (b + 1)) o') :
    DqIn bx m (n + 1) v bm q L (updS S k (S k ++ [b])) nx' pv' li' (updI id b i) (updI wt b x) LW' LN' (updF f i (b + 1)) o' r1 := by
  refine ⟨hl, h.xn, h.row, h.m16, hM, fun j hj c hc => ?_, fun y hy => ?_, ?_⟩
  · rcases mem_upd_push hc with hc | ⟨hc, -⟩
    · have hne : c ≠ b := fun e => hb j hj (e ▸ hc)
      have h1 := h.fm j hj c hc
      have hni : id c ≠ i := fun e => by rw [e, hfi] at h1; omega
      rw [updI_ne _ _ hne, updF_ne _ _ hni]
      exact h1
    · rw [hc, updI_same, updF_same]
  · by_cases e : y = i
    · subst e
      exact ⟨k, b, hk, by rw [updS_same]; simp, updF_same _ _ _, updI_same _ _ _⟩
    · rw [updF_ne _ _ e] at hy ⊢
      obtain ⟨j, c, hj, hc, h1, h2⟩ := h.fc y hy
      have hne : c ≠ b := fun e => hb j hj (e ▸ hc)
      exact ⟨j, c, hj, mem_upd_old hc, h1, by rw [updI_ne _ _ hne]; exact h2⟩
  · have h1 := totl_upd S (S k ++ [b]) m hk
    simp only [List.length_append, List.length_singleton] at h1
    have h2 := h.tot
    omega
theorem dq_push_bad {k i x : Int} (hD : DqAt bx m n st r) (hbad : ¬ ((0 ≤ k ∧ k < (m : Int)) ∧ 1 ≤ i ∧ i ≤ 65536 ∧ 0 ≤ x ∧ x ≤ 2147483648)) (hO : Owned w0 w (r ++ F)) :
    Calls Try.prog 28 #[.pointer (some ⟨bx, 0, none⟩), .int .i64 k, .int .i64 i, .int .i64 x] w fun e w' => e = .returned (.int .i64 1) ∧ Below w.heap.size w w' := by
  obtain ⟨v, bm, q, L, S, nx, pv, li, id, wt, LW, LN, f, o, h, -⟩ := hD
  by_cases hk : 0 ≤ k ∧ k < (m : Int)
  · obtain ⟨k, rfl⟩ : ∃ j : Nat, k = (j : Int) := ⟨k.toNat, by omega⟩
    have hc := dq_row_some h (show k < m by omega) hO
    have hf := dq_fine (w := w) x
    clear h hO
    by_cases h1 : i < 1
    · have hd : decide (i < 1) = true := by simpa using h1
      go_enter Try.func28, Try.ntmps28
      go_wp2_with fail
      go_at_call 52
      refine (hc).mono ?_
      rintro e w1 ⟨rfl, rfl⟩
      go_wp2_with fail
      go_ret
      exact ⟨rfl, Below.refl _ _⟩
    · have hd : decide (i < 1) = false := by simpa using h1
      by_cases h2 : 65536 < i
      · have hd2 : decide (65536 < i) = true := by simpa using h2
        go_enter Try.func28, Try.ntmps28
        go_wp2_with fail
        go_at_call 52
        refine (hc).mono ?_
        rintro e w1 ⟨rfl, rfl⟩
        go_wp2_with fail
        go_ret
        exact ⟨rfl, Below.refl _ _⟩
      · have hd2 : decide (65536 < i) = false := by simpa using h2
        have hx : (decide (0 ≤ x) && decide (x ≤ 2147483648)) = false := by
          rw [Bool.eq_false_iff]
          intro hh
          simp only [Bool.and_eq_true, decide_eq_true_eq] at hh
          exact hbad ⟨hk, by omega, by omega, hh.1, hh.2⟩
        rw [hx] at hf
        clear hx h1 h2
        go_enter Try.func28, Try.ntmps28
        go_wp2_with fail
        go_at_call 52
        refine (hc).mono ?_
        rintro e w1 ⟨rfl, rfl⟩
        go_wp2_with fail
        go_at_call 53
        refine (hf).mono ?_
        rintro e w1 ⟨rfl, rfl⟩
        go_wp2_with fail
        go_ret
        exact ⟨rfl, Below.refl _ _⟩
  · have hc := dq_row_none h (bad_row hk) hO
    clear h hO
    go_enter Try.func28, Try.ntmps28
    go_wp2_with fail
    go_at_call 52
    refine (hc).mono ?_
    rintro e w1 ⟨rfl, rfl⟩
    go_wp2_with fail
    go_ret
    exact ⟨rfl, Below.refl _ _⟩
theorem dq_push_dup {k j : Nat} {i x z : Int} {xs ys : List (Int × Int)} (hD : DqAt bx m n st r) (hk : k < m) (hi : 1 ≤ i ∧ i ≤ 65536 ∧ 0 ≤ x ∧ x ≤ 2147483648) (hj : j < m) (hs : st j = xs ++ (i, z) :: ys) (hO : Owned w0 w (r ++ F)) :
    Calls Try.prog 28 #[.pointer (some ⟨bx, 0, none⟩), .int .i64 (k : Int), .int .i64 i, .int .i64 x] w fun e w' => e = .returned (.int .i64 5) ∧ Below w.heap.size w w' := by
  obtain ⟨v, bm, q, L, S, nx, pv, li, id, wt, LW, LN, f, o, h, hst⟩ := hD
  have hc := dq_row_some h hk hO
  have hf := dq_fine (w := w) x
  rw [show (decide (0 ≤ x) && decide (x ≤ 2147483648)) = true by simp [hi.2.2.1, hi.2.2.2]] at hf
  have hd : decide (i < 1) = false := by simp; omega
  have hd2 : decide (65536 < i) = false := by simp; omega
  obtain ⟨-, c1⟩ := h.cx hO
  obtain ⟨b, us, ts, -, -, -, -, -, hfi⟩ := h.f_some hst hj hs
  have hl := h.map.look (hO.look_at h.om).2 (wfk_id ⟨hi.1, hi.2.1⟩)
  rw [hfi] at hl
  unfold toP nptr at hl
  clear h hO hst hs hfi hi
  go_enter Try.func28, Try.ntmps28
  go_wp2_with fail
  go_at_call 52
  refine (hc).mono ?_
  rintro e w1 ⟨rfl, rfl⟩
  go_wp2_with fail
  go_at_call 53
  refine (hf).mono ?_
  rintro e w1 ⟨rfl, rfl⟩
  go_wp2_with fail
  go_ret
  exact ⟨rfl, Below.refl _ _⟩
set_option maxHeartbeats 1600000 in
theorem dq_push_new {k : Nat} {i x : Int} (hn : n ≤ 1000000) (hD : DqAt bx m n st r) (hk : k < m) (hi : 1 ≤ i ∧ i ≤ 65536 ∧ 0 ≤ x ∧ x ≤ 2147483648) (ha : Absent m st i) (hO : Owned w0 w (r ++ F)) :
    Calls Try.prog 28 #[.pointer (some ⟨bx, 0, none⟩), .int .i64 (k : Int), .int .i64 i, .int .i64 x] w fun e w' => e = .returned (.int .i64 0) ∧ ∃ r', DqAt bx m (n + 1) (updS st k (st k ++ [(i, x)])) r' ∧ Owned w0 w' (r' ++ F) := by
  obtain ⟨v, bm, q, L, S, nx, pv, li, id, wt, LW, LN, f, o, h, hst⟩ := hD
  have hc := dq_row_some h hk hO
  have hf := dq_fine (w := w) x
  rw [show (decide (0 ≤ x) && decide (x ≤ 2147483648)) = true by simp [hi.2.2.1, hi.2.2.2]] at hf
  have hd : decide (i < 1) = false := by simp; omega
  have hd2 : decide (65536 < i) = false := by simp; omega
  obtain ⟨-, c1⟩ := h.cx hO
  have hfi := h.f_none hst ha
  have hl := h.map.look (hO.look_at h.om).2 (wfk_id ⟨hi.1, hi.2.1⟩)
  rw [hfi] at hl
  unfold toP at hl
  obtain ⟨l1, -, -⟩ := h.lens hn hk
  have hfresh : ∀ c u, lookB r c = some u → c ≠ w.heap.size := fun c u hu e => by have := hO.look_lt hu; omega
  have hO1 : Owned w0 (w.alloc (.cells #[.int .i64 i, .int .i64 x, .pointer none, .pointer none, .pointer none] 88 (0, 0))) (((w.heap.size, .cells #[.int .i64 i, .int .i64 x, .pointer none, .pointer none, .pointer none] 88 (0, 0)) :: r) ++ F) := hO.alloc _
  have hbm : bm ≠ w.heap.size := hfresh _ _ h.om
  have hom1 : lookB ((w.heap.size, .cells #[.int .i64 i, .int .i64 x, .pointer none, .pointer none, .pointer none] 88 (0, 0)) :: r) bm = some o := by
    rw [look_cons_ne (Ne.symm hbm)]
    exact h.om
  have HFR := Lib.hid hfresh
  have HO1 := Lib.hid hO1
  have HOM := Lib.hid hom1
  have H := Lib.hid h
  have HST := Lib.hid hst
  have HI := Lib.hid hi
  have HFI := Lib.hid hfi
  have HBM := Lib.hid hbm
  have HX := Lib.hid (wfk_id ⟨hi.1, hi.2.1⟩)
  have HN := Lib.hid hn
  have c2 : (w.alloc (.cells #[.int .i64 i, .int .i64 x, .pointer none, .pointer none, .pointer none] 88 (0, 0))).cell? ⟨bx, 1, none⟩ = some (.map (some bm)) := by
    have e := (h.l.nodes.oth (bx, LoO v bm) (by simp)).1
    have e2 : lookB ((w.heap.size, Obj.cells #[.int .i64 i, .int .i64 x, .pointer none, .pointer none, .pointer none] 88 (0, 0)) :: r) bx = some (LoO v bm) := by
      rw [look_cons_ne (Ne.symm (hfresh _ _ e))]
      exact e
    exact (hO1.look_cell e2 1).trans rfl
  clear hfresh hO1 hom1 h hst hi hfi hbm hO ha hn
  go_enter Try.func28, Try.ntmps28
  go_wp2_with fail
  go_at_call 52
  refine (hc).mono ?_
  rintro e w1 ⟨rfl, rfl⟩
  go_wp2_with fail
  go_at_call 53
  refine (hf).mono ?_
  rintro e w1 ⟨rfl, rfl⟩
  go_wp2_with (at_mapUpdate; refine wp_put rfl _ _ _ rfl rfl rfl rfl H.out.map HO1.out HOM.out (by have := HN.out; unfold maxLen; omega) HX.out ?_; intro w2 o2 hM2 hO2; have HM2 := Lib.hid hM2; have HO2 := Lib.hid hO2; clear hM2 hO2)
  generalize w1.heap.size = b at *
  have hb1 : ∀ j, j < m → b ∉ S j := fun j hj hm => HFR.out _ _ (H.out.l.nodes.el b ⟨j, hj, hm⟩) rfl
  have hbl : ∀ j, j < m → b ≠ L j := fun j hj e => HFR.out _ _ (H.out.l.nodes.lst j hj) e.symm
  have hl2 := (H.out.l.cons (b := b) (o := .cells #[.int .i64 i, .int .i64 x, .pointer none, .pointer none, .pointer none] 88 (0, 0)) HFR.out).turnX (o' := o2) (List.nodup_cons.1 H.out.xn).1
  have hraw := (look_setBk_ne ((b, Obj.cells #[.int .i64 i, .int .i64 x, .pointer none, .pointer none, .pointer none] 88 (0, 0)) :: r) o2 (Ne.symm HBM.out)).trans (look_cons_self _ _ _)
  have hX : ∀ p ∈ (bm, o2) :: (bx, LoO v bm) :: q, p.1 ≠ b := fun p hp => by
    rcases List.mem_cons.1 hp with rfl | hp
    · exact HBM.out
    · exact HFR.out _ _ (H.out.l.nodes.oth p (List.mem_cons_of_mem _ hp)).1
  refine (dql_push hl2 hk hraw hb1 hX hbl HI.out l1 HO2.out).mono ?_
  rintro e w3 ⟨rfl, nx', pv', li', LW', LN', r3, hl3, hO3⟩
  have HR := Lib.hid (show ∃ r', DqAt bx m (n + 1) (updS st k (st k ++ [(i, x)])) r' ∧ Owned w0 w3 (r' ++ F) from
    ⟨r3, ⟨_, _, _, _, _, _, _, _, _, _, _, _, _, _, H.out.pushed hk hb1 HFI.out hl3 HM2.out, st_pushed hb1 HST.out⟩, hO3⟩)
  clear hb1 hbl hl2 hraw hX hl3 hO3 HFR HO2 HM2 H HST HI HFI HBM HX HN
  go_wp2_with fail
  go_ret
  exact ⟨rfl, HR.out⟩
end
end Go.Proofs.Ytnhdjpeadhcajaa
