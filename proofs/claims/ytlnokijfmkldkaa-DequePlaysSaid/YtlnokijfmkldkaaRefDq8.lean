/- The deque and the document's: the steps are functions; agree. -/
import Derived.Test.YtlnokijfmkldkaaRefDq7
import Derived.Test.YtlnokijfmkldkaaDq16
namespace Go.Proofs.Ytlnokijfmkldkaa
open Go.RowKit Go.Sep DqPure
theorem split_uniq : ∀ {xs xs' ys ys' : List (Int × Int)} {p p' : Int × Int}, ((xs ++ p :: ys).map (·.1)).Nodup → xs ++ p :: ys = xs' ++ p' :: ys' → p.1 = p'.1 → xs = xs' ∧ p = p' ∧ ys = ys'
  | [], [], ys, ys', p, p', _, h, _ => by
    injection h with h1 h2
    exact ⟨rfl, h1, h2⟩
  | [], x' :: xs', ys, ys', p, p', hn, h, e => by
    injection h with h1 h2
    subst h1
    have hmem : p' ∈ ys := by
      have h3 : ys = xs' ++ p' :: ys' := h2
      rw [h3]
      simp
    simp only [List.nil_append, List.map_cons, List.nodup_cons] at hn
    exact absurd (List.mem_map.2 ⟨p', hmem, e.symm⟩) hn.1
  | x :: xs, [], ys, ys', p, p', hn, h, e => by
    injection h with h1 h2
    subst h1
    simp only [List.cons_append, List.map_cons, List.nodup_cons] at hn
    exact absurd (List.mem_map.2 ⟨p, by simp, e⟩) hn.1
  | x :: xs, x' :: xs', ys, ys', p, p', hn, h, e => by
    injection h with h1 h2
    subst h1
    have hn2 : ((xs ++ p :: ys).map (·.1)).Nodup := by
      simp only [List.cons_append, List.map_cons, List.nodup_cons] at hn
      exact hn.2
    obtain ⟨e1, e2, e3⟩ := split_uniq hn2 h2 e
    exact ⟨by rw [e1], e2, e3⟩
/-- no number stands twice -/
structure Once (m : Nat) (st : Sts) : Prop where
  u : Uniq m st
  nd : ∀ k, k < m → ((st k).map (·.1)).Nodup
theorem Once.split {m : Nat} {st : Sts} (h : Once m st) {i : Int} {j k : Nat} {xs ys xs' ys' : List (Int × Int)} {z z' : Int} (hj : j < m) (hk : k < m) (hs : st j = xs ++ (i, z) :: ys) (hs' : st k = xs' ++ (i, z') :: ys') : j = k ∧ xs = xs' ∧ z = z' ∧ ys = ys' := by
  have h1 := h.u j k (i, z) (i, z') hj hk (by rw [hs]; simp) (by rw [hs']; simp) rfl
  obtain ⟨rfl, -⟩ := h1
  have hn := h.nd j hj
  rw [hs] at hn
  have h2 := split_uniq hn (hs.symm.trans hs') rfl
  exact ⟨rfl, h2.1, by have := h2.2.1; injection this, h2.2.2⟩
theorem PushR.det {m : Nat} {st st' st2 : Sts} {k i x c c2 : Int} (h : PushR m st k i x c st') (h2 : PushR m st k i x c2 st2) : c2 = c ∧ st2 = st' := by
  cases h with
  | bad hb => cases h2 with
    | bad _ => exact ⟨rfl, rfl⟩
    | dup hg _ => exact absurd hg hb
    | new hg _ => exact absurd hg hb
  | dup hg ha => cases h2 with
    | bad hb => exact absurd hg hb
    | dup _ _ => exact ⟨rfl, rfl⟩
    | new _ ha2 => exact absurd ha2 ha
  | new hg ha => cases h2 with
    | bad hb => exact absurd hg hb
    | dup _ ha2 => exact absurd ha ha2
    | new _ _ => exact ⟨rfl, rfl⟩
theorem UnlinkR.det {m : Nat} {st st' st2 : Sts} {i c c2 : Int} (ho : Once m st) (h : UnlinkR m st i c st') (h2 : UnlinkR m st i c2 st2) : c2 = c ∧ st2 = st' := by
  cases h with
  | none ha => cases h2 with
    | none _ => exact ⟨rfl, rfl⟩
    | some k xs ys z hk hs => exact absurd ha (there_of hk hs)
  | some k xs ys z hk hs => cases h2 with
    | none ha => exact absurd ha (there_of hk hs)
    | some k2 xs2 ys2 z2 hk2 hs2 =>
      obtain ⟨rfl, rfl, -, rfl⟩ := ho.split hk hk2 hs hs2
      exact ⟨rfl, rfl⟩
theorem MoveR.det {m : Nat} {st st' st2 : Sts} {i k c c2 : Int} (ho : Once m st) (h : MoveR m st i k c st') (h2 : MoveR m st i k c2 st2) : c2 = c ∧ st2 = st' := by
  cases h with
  | none ha => cases h2 with
    | none _ => exact ⟨rfl, rfl⟩
    | bad hb _ => exact absurd ha hb
    | some j xs ys z hj hs _ => exact absurd ha (there_of hj hs)
  | bad ha hk => cases h2 with
    | none hb => exact absurd hb ha
    | bad _ _ => exact ⟨rfl, rfl⟩
    | some j xs ys z hj hs hk2 => exact absurd hk2 hk
  | some j xs ys z hj hs hk => cases h2 with
    | none ha => exact absurd ha (there_of hj hs)
    | bad _ hk2 => exact absurd hk hk2
    | some j2 xs2 ys2 z2 hj2 hs2 _ =>
      obtain ⟨rfl, rfl, rfl, rfl⟩ := ho.split hj hj2 hs hs2
      exact ⟨rfl, rfl⟩
theorem ReweighR.det {m : Nat} {st st' st2 : Sts} {i x c c2 : Int} (ho : Once m st) (h : ReweighR m st i x c st') (h2 : ReweighR m st i x c2 st2) : c2 = c ∧ st2 = st' := by
  cases h with
  | none ha => cases h2 with
    | none _ => exact ⟨rfl, rfl⟩
    | bad hb _ => exact absurd ha hb
    | some j xs ys z hj hs _ => exact absurd ha (there_of hj hs)
  | bad ha hk => cases h2 with
    | none hb => exact absurd hb ha
    | bad _ _ => exact ⟨rfl, rfl⟩
    | some j xs ys z hj hs hk2 => exact absurd hk2 hk
  | some j xs ys z hj hs hk => cases h2 with
    | none ha => exact absurd ha (there_of hj hs)
    | bad _ hk2 => exact absurd hk hk2
    | some j2 xs2 ys2 z2 hj2 hs2 _ =>
      obtain ⟨rfl, rfl, rfl, rfl⟩ := ho.split hj hj2 hs hs2
      exact ⟨rfl, rfl⟩
theorem OfR.det {m : Nat} {st : Sts} {i a z a2 z2 : Int} (ho : Once m st) (h : OfR m st i a z) (h2 : OfR m st i a2 z2) : a2 = a ∧ z2 = z := by
  cases h with
  | none ha => cases h2 with
    | none _ => exact ⟨rfl, rfl⟩
    | some j xs ys z hj hs => exact absurd ha (there_of hj hs)
  | some j xs ys z hj hs => cases h2 with
    | none ha => exact absurd ha (there_of hj hs)
    | some j2 xs2 ys2 z2 hj2 hs2 =>
      obtain ⟨rfl, -, rfl, -⟩ := ho.split hj hj2 hs hs2
      exact ⟨rfl, rfl⟩
section
variable {bx g m n : Nat} {st : Sts} {r s F : Sep.Own} {w0 w : World}
theorem DqAt.once (h : DqAt bx m n st r) : Once m st := ⟨fun _ _ _ _ hi hj hp hq e => h.uniq hi hj hp hq e, fun _ hk => h.nd hk⟩
theorem ids_row (m : Nat) (st : Sts) (k : Int) : idsAt m st k = (rowAt m st k).map (·.1) := by
  unfold idsAt rowAt
  by_cases h : 0 ≤ k ∧ k < (m : Int)
  · rw [if_pos h, if_pos (show Good m k from h)]
  · rw [if_neg h, if_neg (show ¬ Good m k from h)]
    rfl
theorem dq_front_r (hD : DqAt bx m n st r) (k : Int) (hO : Owned w0 w (r ++ F)) : Calls Try.prog 11 #[.pointer (some ⟨bx, 0, none⟩), .int .i64 k] w fun e w' => e = .returned (.int .i64 (headI (rowAt m st k))) ∧ Below w.heap.size w w' := by
  by_cases h : Good m k
  · obtain ⟨j, rfl⟩ : ∃ j : Nat, k = (j : Int) := ⟨k.toNat, by have := h.1; omega⟩
    have hj : j < m := by have := h.2; omega
    rw [rowAt_nat st hj]
    exact dq_front_some hD hj hO
  · rw [rowAt_bad st h]
    exact dq_front_none hD h hO
theorem dq_back_r (hD : DqAt bx m n st r) (k : Int) (hO : Owned w0 w (r ++ F)) : Calls Try.prog 12 #[.pointer (some ⟨bx, 0, none⟩), .int .i64 k] w fun e w' => e = .returned (.int .i64 (lastI (rowAt m st k))) ∧ Below w.heap.size w w' := by
  by_cases h : Good m k
  · obtain ⟨j, rfl⟩ : ∃ j : Nat, k = (j : Int) := ⟨k.toNat, by have := h.1; omega⟩
    have hj : j < m := by have := h.2; omega
    rw [rowAt_nat st hj]
    exact dq_back_some hD hj hO
  · rw [rowAt_bad st h]
    exact dq_back_none hD h hO
theorem dq_weight_r (hD : DqAt bx m n st r) (k : Int) (hO : Owned w0 w (r ++ F)) : Calls Try.prog 15 #[.pointer (some ⟨bx, 0, none⟩), .int .i64 k] w fun e w' => e = .returned (.int .i64 (sumW (rowAt m st k))) ∧ Below w.heap.size w w' := by
  by_cases h : Good m k
  · obtain ⟨j, rfl⟩ : ∃ j : Nat, k = (j : Int) := ⟨k.toNat, by have := h.1; omega⟩
    have hj : j < m := by have := h.2; omega
    rw [rowAt_nat st hj]
    exact dq_weight_some hD hj hO
  · rw [rowAt_bad st h]
    exact dq_weight_none hD h hO
theorem dq_len_r (hD : DqAt bx m n st r) (k : Int) (hO : Owned w0 w (r ++ F)) : Calls Try.prog 13 #[.pointer (some ⟨bx, 0, none⟩), .int .i64 k] w fun e w' => e = .returned (.int .i64 ((rowAt m st k).length : Int)) ∧ Below w.heap.size w w' := by
  by_cases h : Good m k
  · obtain ⟨j, rfl⟩ : ∃ j : Nat, k = (j : Int) := ⟨k.toNat, by have := h.1; omega⟩
    have hj : j < m := by have := h.2; omega
    rw [rowAt_nat st hj]
    exact dq_len_some hD hj hO
  · rw [rowAt_bad st h]
    exact dq_len_none hD h hO
theorem row_len (hD : DqAt bx m n st r) (k : Int) : (rowAt m st k).length ≤ n := by
  have := idsAt_len hD k
  rw [ids_row, List.length_map] at this
  exact this
theorem dq_row_r (hD : DqAt bx m n st r) (hn : n ≤ 1000) (k : Int) (hO : Owned w0 w (r ++ F)) : Calls Try.prog 18 #[.pointer (some ⟨bx, 0, none⟩), .int .i64 k, .int .i64 1000] w fun e w' => ∃ v rq, e = .returned v ∧ Row 3 1 v (rowAt m st k).length (ints ((rowAt m st k).map (·.1))) rq ∧ Owned w0 w' (rq ++ (r ++ F)) := by
  have h := row_calls hD (by omega) k 1000 (by omega) hO
  have h2 := row_len hD k
  rw [ids_row, List.take_of_length_le (by rw [List.length_map]; omega), List.length_map] at h
  exact h
theorem below_drewN' (w : World) (m : Nat) : Below w.heap.size w (w.drewN m) := ⟨rfl, rfl, rfl, Nat.le_refl _, fun _ _ => rfl⟩
theorem ints_b' {v u : Value} {la : List Int} {w : World} (ha : Reads w v la) (hb : Reads w u la) :
    Calls Try.prog 19 #[v, u] w fun e w' => e = .returned (.bool true) ∧ Below w.heap.size w w' :=
  (ints_yes rfl ha hb).mono (by rintro e w' ⟨rfl, m, rfl⟩; exact ⟨rfl, below_drewN' _ _⟩)
set_option maxHeartbeats 6400000 in
set_option maxRecDepth 100000 in
theorem agree_calls (hD : DqAt bx m n st r) (hn : n ≤ 1000) (hR : RdAt g m st s) (hO : Owned w0 w (r ++ (s ++ F))) :
    Calls Try.prog 27 #[.pointer (some ⟨bx, 0, none⟩), .pointer (some ⟨g, 0, none⟩)] w fun e w' => e = .returned (.bool true) ∧ Owned w0 w' (r ++ (s ++ F)) := by
  have hm := hD.m16
  have hlen : ∀ i, i < m → (st i).length ≤ 1000000 := fun i hi => by have := hD.len hi; omega
  have hfine : ∀ i, i < m → ∀ p ∈ st i, 0 ≤ p.2 ∧ p.2 ≤ 2147483648 := fun i hi p hp => (hD.fine hi hp).2
  have HC := Lib.hid (show ∃ A c, ∀ W X, Owned w0 W (s ++ X) → W.cell? ⟨g, 0, none⟩ = some (.slice A m c) from by
    obtain ⟨v, q, vs, os, rfl, hI⟩ := hR
    obtain ⟨A, c, rfl, hc, -⟩ := rd_reads (w0 := w0) (g := g) hI
    exact ⟨A, c, hc⟩)
  obtain ⟨A, c, hcell⟩ := HC.out
  have HCELL := Lib.hid hcell
  have HD := Lib.hid hD
  have HR := Lib.hid hR
  have HL := Lib.hid hlen
  have HF := Lib.hid hfine
  have c0 := hcell _ _ (Owned.comm (a := r) hO)
  have HO := Lib.hid hO
  clear hD hR hlen hfine hcell hO HC
  go_enter Try.func27, Try.ntmps27
  go_wp2_with fail
  clear c0
  go_loopw [5] (fun x5 wr => ∃ k : Int, -1 ≤ k ∧ k ≤ (m : Int) + 1 ∧ x5 = .int .i64 k ∧ Hid (Owned w0 wr (r ++ (s ++ F)))) (fun x5 _ => ((m : Int) + 1 - intOf x5).toNat)
  case atStart => exact ⟨-1, by omega, by omega, rfl, HO⟩
  case round =>
    clear HO
    obtain ⟨k, hk1, hk2, rfl, hrel⟩ := hrel
    have c0 := HCELL.out _ _ (Owned.comm (a := r) hrel.out)
    by_cases hkm : k ≤ (m : Int)
    · have d1 : decide (k ≤ (m : Int)) = true := by simpa using hkm
      have hrl := row_len HD.out k
      have C1 := Lib.hid (dq_row_r HD.out hn k hrel.out)
      have C2 := Lib.hid (fun (W : World) (X : Sep.Own) (h : Owned w0 W (s ++ X)) => rd_all k HR.out hm HL.out h)
      have C3 := Lib.hid (fun (W : World) (h : Owned w0 W (r ++ (s ++ F))) => dq_front_r HD.out k h)
      have C4 := Lib.hid (fun (W : World) (h : Owned w0 W (s ++ (r ++ F))) => rd_front k HR.out hm HL.out h)
      have C5 := Lib.hid (fun (W : World) (h : Owned w0 W (r ++ (s ++ F))) => dq_back_r HD.out k h)
      have C6 := Lib.hid (fun (W : World) (h : Owned w0 W (s ++ (r ++ F))) => rd_back k HR.out hm HL.out h)
      have C7 := Lib.hid (fun (W : World) (h : Owned w0 W (r ++ (s ++ F))) => dq_weight_r HD.out k h)
      have C8 := Lib.hid (fun (W : World) (h : Owned w0 W (s ++ (r ++ F))) => rd_weight k HR.out hm HL.out HF.out h)
      have C9 := Lib.hid (fun (W : World) (h : Owned w0 W (r ++ (s ++ F))) => dq_len_r HD.out k h)
      have CA := Lib.hid (fun (W : World) (h : Owned w0 W (s ++ (r ++ F))) => rd_len k HR.out hm HL.out h)
      generalize rowAt m st k = l at C1 C2 C3 C4 C5 C6 C7 C8 C9 CA hrl
      have hll : (l.map (·.1)).length = l.length := List.length_map _
      have hlm : l.length ≤ 9223372036854775807 := by omega
      have HLL := Lib.hid hll
      have HLM := Lib.hid hlm
      have HKM := Lib.hid hkm
      clear hll hlm hrl hkm
      go_wp2_with fail
      go_at_call 18
      refine (C1.out).mono ?_
      rintro e w1 ⟨v1, q1, rfl, hrow1, hO1⟩
      have HW1 := Lib.hid hrow1
      have HO1 := Lib.hid (show Owned w0 w1 (s ++ (r ++ (q1 ++ F))) from hO1.perm ((perm3 q1 r s F).trans (List.Perm.append_left s (perm2 q1 r F))))
      clear hrow1 hO1 C1
      go_wp2_with fail
      go_at_call 36
      refine (C2.out _ _ HO1.out).mono ?_
      rintro e w2 ⟨v2, q2, rfl, hrow2, hO2⟩
      have ha := reads_of_row (by rw [HLL.out]; exact hrow2) (by rw [HLL.out]; exact HLM.out) hO2
      have hO2' : Owned w0 w2 (q1 ++ (q2 ++ (s ++ (r ++ F)))) := hO2.perm ((perm4 q2 s r q1 F))
      have hb := reads_of_row (by rw [HLL.out]; exact HW1.out) (by rw [HLL.out]; exact HLM.out) hO2'
      have HO2 := Lib.hid (show Owned w0 w2 (r ++ (s ++ F)) from hO2'.drop_.drop_.comm)
      clear hrow2 hO2 hO2' C2 HW1 HO1 HLL HLM
      go_wp2_with fail
      go_at_call 19
      refine (ints_b' hb ha).mono ?_
      rintro e w3 ⟨rfl, hb3⟩
      have HO3 := Lib.hid (HO2.out.under hb3)
      clear ha hb hb3 HO2
      go_wp2_with fail
      go_at_call 11
      refine (C3.out _ HO3.out).mono ?_
      rintro e w4 ⟨rfl, hb4⟩
      have HO4 := Lib.hid ((HO3.out.under hb4).comm)
      clear hb4 HO3 C3
      go_wp2_with fail
      go_at_call 37
      refine (C4.out _ HO4.out).mono ?_
      rintro e w5 ⟨rfl, hO5⟩
      have HO5 := Lib.hid hO5.comm
      clear hO5 HO4 C4
      go_wp2_with fail
      go_at_call 12
      refine (C5.out _ HO5.out).mono ?_
      rintro e w6 ⟨rfl, hb6⟩
      have HO6 := Lib.hid ((HO5.out.under hb6).comm)
      clear hb6 HO5 C5
      go_wp2_with fail
      go_at_call 38
      refine (C6.out _ HO6.out).mono ?_
      rintro e w7 ⟨rfl, hO7⟩
      have HO7 := Lib.hid hO7.comm
      clear hO7 HO6 C6
      go_wp2_with fail
      go_at_call 15
      refine (C7.out _ HO7.out).mono ?_
      rintro e w8 ⟨rfl, hb8⟩
      have HO8 := Lib.hid ((HO7.out.under hb8).comm)
      clear hb8 HO7 C7
      go_wp2_with fail
      go_at_call 39
      refine (C8.out _ HO8.out).mono ?_
      rintro e w9 ⟨rfl, hO9⟩
      have HO9 := Lib.hid hO9.comm
      clear hO9 HO8 C8
      go_wp2_with fail
      go_at_call 13
      refine (C9.out _ HO9.out).mono ?_
      rintro e w10 ⟨rfl, hb10⟩
      have HO10 := Lib.hid ((HO9.out.under hb10).comm)
      clear hb10 HO9 C9
      go_wp2_with fail
      go_at_call 40
      refine (CA.out _ HO10.out).mono ?_
      rintro e w11 ⟨rfl, hO11⟩
      have HO11 := Lib.hid hO11.comm
      clear hO11 HO10 CA c0
      go_wp2_with fail
      go_roundw
      case rel => exact ⟨k + 1, by omega, by have := HKM.out; omega, by go_num, HO11⟩
      case measure => have := HKM.out; simp [intOf]; omega
    · have d1 : decide (k ≤ (m : Int)) = false := by simpa using hkm
      go_wp2_with fail
      go_ret
      exact ⟨rfl, hrel.out⟩
end
end Go.Proofs.Ytlnokijfmkldkaa
