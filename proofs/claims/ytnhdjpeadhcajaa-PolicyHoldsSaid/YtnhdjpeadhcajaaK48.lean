/- Merged texts: Layer 11: what events do to all nodes together, in plain Lean. -/
import Derived.Test.YtnhdjpeadhcajaaK43
namespace Go.Proofs.Ytnhdjpeadhcajaa
open Go.RowKit Go.Sep DqPure
def PSt.all (P : PSt) : List (Int × Int) := P.a ++ (P.b ++ P.c)
theorem sumW_perm {l m : List (Int × Int)} (h : l.Perm m) : sumW l = sumW m := by
  induction h with
  | nil => rfl
  | cons x _ ih => show x.2 + _ = x.2 + _; rw [ih]
  | swap x y l => show y.2 + (x.2 + sumW l) = x.2 + (y.2 + sumW l); omega
  | trans _ _ h1 h2 => exact h1.trans h2
theorem inL_perm {l m : List (Int × Int)} (h : l.Perm m) (x : Int) : inL x l = inL x m := by
  rw [Bool.eq_iff_iff, in_iff, in_iff]
  exact ⟨fun ⟨p, hp, e⟩ => ⟨p, h.mem_iff.1 hp, e⟩, fun ⟨p, hp, e⟩ => ⟨p, h.mem_iff.2 hp, e⟩⟩
theorem in_ids {x : Int} {l : List (Int × Int)} : inL x l = true ↔ x ∈ idsL l := by
  rw [in_iff]
  exact ⟨fun ⟨p, hp, e⟩ => List.mem_map.2 ⟨p, hp, e⟩, fun h => by obtain ⟨p, hp, e⟩ := List.mem_map.1 h; exact ⟨p, hp, e⟩⟩
theorem all_wt (P : PSt) : P.wt = sumW P.all := by
  unfold PSt.wt PSt.all
  rw [sumW_append, sumW_append]
  omega
theorem all_len (P : PSt) : P.len = P.all.length := by
  unfold PSt.len PSt.all
  rw [List.length_append, List.length_append]
  omega
theorem all_has (P : PSt) (x : Int) : P.has x = inL x P.all := by
  unfold PSt.has PSt.all
  rw [inL_append, inL_append]
theorem pass_perm (m : Int) : ∀ a p : List (Int × Int), ((passL m a p).1 ++ (passL m a p).2).Perm (a ++ p)
  | [], p => List.Perm.refl _
  | x :: t, p => by
    rw [passL]
    split
    · refine (pass_perm m t (p ++ [x])).trans ?_
      rw [← List.append_assoc]
      exact List.perm_append_comm
    · exact List.Perm.refl _
theorem all_passA (P : PSt) : P.passA.all.Perm P.all := by
  show ((passL P.qw P.a P.b).1 ++ ((passL P.qw P.a P.b).2 ++ P.c)).Perm (P.a ++ (P.b ++ P.c))
  rw [← List.append_assoc, ← List.append_assoc]
  exact (pass_perm P.qw P.a P.b).append_right P.c
theorem all_passC (P : PSt) : P.passC.all.Perm P.all := by
  show (P.a ++ ((passL P.pq P.c P.b).2 ++ (passL P.pq P.c P.b).1)).Perm (P.a ++ (P.b ++ P.c))
  exact List.Perm.append_left P.a (List.perm_append_comm.trans ((pass_perm P.pq P.c P.b).trans List.perm_append_comm))
theorem all_count (P : PSt) (hit : Bool) : (P.count hit).all.Perm P.all := by
  unfold PSt.count
  split
  · exact all_passC _
  · exact List.Perm.refl _
theorem count_cap (P : PSt) (hit : Bool) : (P.count hit).cap = P.cap := by
  unfold PSt.count
  split <;> rfl
theorem rem_perm {id : Int} {l : List (Int × Int)} (hn : (idsL l).Nodup) (h : inL id l = true) : (remL id l ++ [(id, wtL id l)]).Perm l := by
  obtain ⟨xs, z, ys, e1, e2, e3, -⟩ := split_in hn h
  rw [e2, e3, e1, List.append_assoc]
  exact List.Perm.append_left xs List.perm_append_comm
structure GoodP (P : PSt) : Prop where
  nd : (idsL P.all).Nodup
  pos : ∀ p ∈ P.all, 1 ≤ p.1 ∧ 0 ≤ p.2
  ks : ∀ x, (P.ks x).isSome = inL x P.all
  cap : 0 ≤ P.cap
theorem GoodP.of_perm {P P' : PSt} (h : GoodP P) (hp : P'.all.Perm P.all) (hk : P'.ks = P.ks) (hc : P'.cap = P.cap) : GoodP P' :=
  ⟨(hp.map _).nodup_iff.2 h.nd, fun p hq => h.pos p (hp.mem_iff.1 hq), fun x => by rw [hk, h.ks, inL_perm hp], by rw [hc]; exact h.cap⟩
theorem GoodP.parts {P : PSt} (h : GoodP P) : (idsL P.a).Nodup ∧ (idsL P.b).Nodup ∧ (idsL P.c).Nodup := by
  have hn := h.nd
  unfold PSt.all idsL at hn
  rw [List.map_append, List.map_append] at hn
  have h2 := List.nodup_append.1 hn
  have h3 := List.nodup_append.1 h2.2.1
  exact ⟨h2.1, h3.1, h3.2.1⟩
theorem all_touch {P : PSt} (h : GoodP P) {id : Int} (hh : P.has id = true) : (P.touch id).all.Perm P.all ∧ (P.touch id).ks = P.ks ∧ (P.touch id).cap = P.cap := by
  obtain ⟨na, nb, nc⟩ := h.parts
  unfold PSt.touch
  by_cases hb : inL id P.b = true
  · rw [if_pos hb]
    refine ⟨(all_passC _).trans ?_, rfl, rfl⟩
    show (P.a ++ (remL id P.b ++ (P.c ++ [(id, wtL id P.b)]))).Perm (P.a ++ (P.b ++ P.c))
    refine List.Perm.append_left P.a ?_
    refine (List.Perm.append_left _ List.perm_append_comm).trans ?_
    rw [← List.append_assoc]
    exact (rem_perm nb hb).append_right P.c
  · rw [if_neg hb]
    by_cases ha : inL id P.a = true
    · rw [if_pos ha]
      exact ⟨(rem_perm na ha).append_right _, rfl, rfl⟩
    · rw [if_neg ha]
      have hc : inL id P.c = true := by
        unfold PSt.has at hh
        rw [Bool.or_eq_true, Bool.or_eq_true] at hh
        rcases hh with hh | hh | hh
        · exact absurd hh ha
        · exact absurd hh hb
        · exact hh
      exact ⟨List.Perm.append_left P.a (List.Perm.append_left P.b (rem_perm nc hc)), rfl, rfl⟩
theorem all_read {P : PSt} (h : GoodP P) {id : Int} (hh : P.has id = true) : (P.read id).all.Perm P.all ∧ (P.read id).ks = P.ks ∧ (P.read id).cap = P.cap := by
  have hr : GoodP (P.record (P.key id)) := h.of_perm (List.Perm.refl _) rfl rfl
  obtain ⟨t1, t2, t3⟩ := all_touch hr (id := id) hh
  exact ⟨(all_count _ true).trans t1, (count_ks _ true).trans t2, (count_cap _ true).trans t3⟩
theorem rem_append (id : Int) (l m : List (Int × Int)) : remL id (l ++ m) = remL id l ++ remL id m := List.filter_append ..
theorem set_append (id x : Int) (l m : List (Int × Int)) : setL id x (l ++ m) = setL id x l ++ setL id x m := List.map_append
theorem all_drop (P : PSt) (id : Int) : (P.drop id).all = remL id P.all := by
  unfold PSt.all
  rw [rem_append, rem_append]
  rfl
theorem all_reweigh (P : PSt) (id x : Int) : (P.reweigh id x).all = setL id x P.all := by
  unfold PSt.all
  rw [set_append, set_append]
  rfl
theorem ids_set (id x : Int) (l : List (Int × Int)) : idsL (setL id x l) = idsL l := by
  unfold idsL setL
  rw [List.map_map]
  exact List.map_congr_left (fun p _ => by
    show (if p.1 = id then (id, x) else p).1 = p.1
    split
    · rename_i h; exact h.symm
    · rfl)
theorem GoodP.drop {P : PSt} (h : GoodP P) (id : Int) : GoodP (P.drop id) := by
  refine ⟨?_, ?_, fun x => ?_, h.cap⟩
  · rw [all_drop]
    exact h.nd.sublist (List.filter_sublist.map _)
  · rw [all_drop]
    exact fun p hp => h.pos p (List.mem_filter.1 hp).1
  · rw [all_drop, inL_rem]
    show (updK P.ks id none x).isSome = _
    by_cases e : x = id
    · rw [if_pos e, e, updK_same]; rfl
    · rw [if_neg e, updK_ne _ _ e]; exact h.ks x
theorem GoodP.reweigh {P : PSt} (h : GoodP P) (id x : Int) (hx : 0 ≤ x) : GoodP (P.reweigh id x) := by
  refine ⟨?_, ?_, fun y => ?_, h.cap⟩
  · rw [all_reweigh, ids_set]
    exact h.nd
  · rw [all_reweigh]
    intro p hp
    obtain ⟨q, hq, rfl⟩ := List.mem_map.1 hp
    have := h.pos q hq
    split
    · rename_i e; rw [← e]; exact ⟨this.1, hx⟩
    · exact this
  · rw [all_reweigh]
    refine (h.ks y).trans ?_
    rw [Bool.eq_iff_iff, in_ids, in_ids, ids_set]
theorem add_all (P : PSt) (nd key wt : Int) : (P.add nd key wt).all.Perm (P.all ++ [(nd, wt)]) := by
  have h := all_count (P.record key) false
  show (((P.record key).count false).a ++ [(nd, wt)] ++ (((P.record key).count false).b ++ ((P.record key).count false).c)).Perm _
  refine List.Perm.trans ?_ ((show ((P.record key).count false).all.Perm P.all from h).append_right [(nd, wt)])
  unfold PSt.all
  rw [List.append_assoc, List.append_assoc]
  exact List.Perm.append_left _ List.perm_append_comm
theorem GoodP.add {P : PSt} (h : GoodP P) (nd key wt : Int) (hnd : 1 ≤ nd) (hw : 0 ≤ wt) (hh : P.has nd = false) : GoodP (P.add nd key wt) := by
  have hp := add_all P nd key wt
  have hks : (P.add nd key wt).ks = updK P.ks nd (some key) := rfl
  have hno : inL nd P.all = false := by rw [← all_has]; exact hh
  refine ⟨?_, ?_, fun x => ?_, ?_⟩
  · refine (hp.map _).nodup_iff.2 ?_
    rw [List.map_append]
    refine List.nodup_append.2 ⟨h.nd, by simp, ?_⟩
    intro x hx y hy e
    have hy2 : y = nd := by simpa using hy
    have : inL nd P.all = true := in_ids.2 (by rw [← hy2, ← e]; exact hx)
    rw [hno] at this
    cases this
  · intro p hq
    rcases List.mem_append.1 (hp.mem_iff.1 hq) with h1 | h1
    · exact h.pos p h1
    · obtain rfl : p = (nd, wt) := by simpa using h1
      exact ⟨hnd, hw⟩
  · rw [hks, inL_perm hp, inL_append, inL_one]
    by_cases e : x = nd
    · rw [e, updK_same, decide_eq_true rfl]; simp
    · rw [updK_ne _ _ e, h.ks, decide_eq_false (fun h => e h.symm), Bool.or_false]
  · show 0 ≤ ((P.record key).count false).cap
    rw [count_cap]
    exact h.cap
theorem sum_nonneg : ∀ l : List (Int × Int), (∀ p ∈ l, 1 ≤ p.1 ∧ 0 ≤ p.2) → 0 ≤ sumW l
  | [], _ => Int.le_refl _
  | p :: l, h => by
    have h1 := sum_nonneg l (fun q hq => h q (List.mem_cons_of_mem _ hq))
    have h2 := h p List.mem_cons_self
    show 0 ≤ p.2 + sumW l
    omega
theorem GoodP.next_has {P : PSt} (h : GoodP P) (hw : P.cap < P.wt) : P.has P.next = true := by
  have h0 := h.cap
  have hb : P.b ≠ [] → headI P.b ≠ 0 := by
    intro hne
    cases hl : P.b with
    | nil => exact absurd hl hne
    | cons p l =>
      have := (h.pos p (by unfold PSt.all; rw [hl]; simp)).1
      show p.1 ≠ 0
      omega
  have hd : ∀ l : List (Int × Int), l ≠ [] → inL (headI l) l = true := by
    intro l hl
    cases l with
    | nil => exact absurd rfl hl
    | cons p l => exact in_iff.2 ⟨p, List.mem_cons_self, rfl⟩
  unfold PSt.next PSt.has
  by_cases hv : headI P.b = 0
  · rw [if_pos hv]
    have hbn : P.b = [] := Classical.byContradiction (fun hne => hb hne hv)
    by_cases hc : 0 < P.c.length
    · rw [if_pos hc, hd P.c (fun e => by rw [e] at hc; exact absurd hc (by decide))]
      simp
    · rw [if_neg hc]
      have hcn : P.c = [] := List.eq_nil_of_length_eq_zero (by omega)
      have han : P.a ≠ [] := fun e => by
        have : P.wt = 0 := by unfold PSt.wt; rw [e, hbn, hcn]; rfl
        omega
      rw [hd P.a han]
      rfl
  · rw [if_neg hv]
    obtain ⟨e1, e2⟩ := ends_mem P.b hv
    split
    · rw [e1]; simp
    · rw [e2]; simp
/-- the nodes that are not among some -/
def outL (g : List Int) (l : List (Int × Int)) : List (Int × Int) := l.filter (fun p => !g.contains p.1)
theorem out_nil (l : List (Int × Int)) : outL [] l = l := List.filter_eq_self.2 (fun _ _ => rfl)
theorem out_cons (id : Int) (g : List Int) (l : List (Int × Int)) : outL g (remL id l) = outL (id :: g) l := by
  unfold outL remL
  rw [List.filter_filter]
  refine List.filter_congr (fun p _ => ?_)
  simp only [List.contains_cons, Bool.not_or]
  rw [Bool.and_comm]
  rfl
structure Went (P P' : PSt) (g : List Int) : Prop where
  good : GoodP P'
  all : P'.all.Perm (outL g P.all)
  nd : g.Nodup
  sub : ∀ x ∈ g, inL x P.all = true
  none : P.wt ≤ P.cap → g = []
  cap : P'.cap = P.cap
  wt : P'.wt ≤ P.cap
theorem settleN_went : ∀ (q : Nat) (P : PSt), GoodP P → P.len ≤ q → Went P (PSt.settleN q P).1 (PSt.settleN q P).2
  | 0, P, h, hq => by
    have hz : P.all = [] := List.eq_nil_of_length_eq_zero (by have := all_len P; omega)
    refine ⟨h, ?_, List.nodup_nil, (fun x hx => by cases hx), fun _ => rfl, rfl, ?_⟩
    · show P.all.Perm (outL [] P.all)
      rw [out_nil]
    · show P.wt ≤ P.cap
      rw [all_wt, hz]
      exact h.cap
  | q + 1, P, h, hq => by
    rw [PSt.settleN]
    by_cases hlt : P.cap < P.wt
    · rw [if_pos hlt]
      have hn := h.next_has hlt
      have hl := drop_len hn
      have ih := settleN_went q (P.drop P.next) (h.drop P.next) (by omega)
      refine ⟨ih.good, ?_, ?_, ?_, fun h => by omega, ih.cap, ih.wt⟩
      · refine ih.all.trans ?_
        rw [all_drop, out_cons]
      · refine List.nodup_cons.2 ⟨fun hm => ?_, ih.nd⟩
        have := ih.sub _ hm
        rw [all_drop, inL_rem, if_pos rfl] at this
        cases this
      · intro x hx
        rcases List.mem_cons.1 hx with rfl | hx
        · rw [← all_has]; exact hn
        · have := ih.sub x hx
          rw [all_drop, inL_rem] at this
          split at this
          · cases this
          · exact this
    · rw [if_neg hlt]
      refine ⟨h, ?_, List.nodup_nil, (fun x hx => by cases hx), fun _ => rfl, rfl, show P.wt ≤ P.cap by omega⟩
      rw [out_nil]
theorem settle_went {P : PSt} (h : GoodP P) : Went P P.settle.1 P.settle.2 := by
  have hp := all_passA P
  have w := settleN_went P.len P.passA (h.of_perm hp rfl rfl) (by rw [passA_len]; exact Nat.le_refl _)
  have hw : P.passA.wt = P.wt := by rw [all_wt, all_wt, sumW_perm hp]
  refine ⟨w.good, w.all.trans (hp.filter _), w.nd, fun x hx => ?_, fun hle => w.none (by rw [hw]; exact hle), w.cap, w.wt⟩
  rw [← inL_perm hp]
  exact w.sub x hx
end Go.Proofs.Ytnhdjpeadhcajaa
