/- Merged texts: Layer 11: what an event does, in plain Lean. Layer 11: is a number among some? Which row a node is in. -/
import Derived.Test.YtnhdjpeadhcajaaK48
import Derived.Test.YtnhdjpeadhcajaaK47
namespace Go.Proofs.Ytnhdjpeadhcajaa
open Go.RowKit Go.Sep DqPure
theorem new_good (cap seed : Int) : GoodP (PSt.new cap seed) := ⟨List.nodup_nil, (fun p hp => by cases hp), fun _ => rfl, (newC_in cap).1⟩
/-- all nodes, behind what an event does itself -/
def preL (L : List (Int × Int)) (d nd wt : Int) : List (Int × Int) := if d = 1 then L ++ [(nd, wt)] else if d = 3 then setL nd wt L else if d = 4 then remL nd L else L
theorem may_ok {P : PSt} {d nd wt : Int} (hm : P.may d nd wt = 0) : (1 ≤ d ∧ d ≤ 4) ∧ (d = 1 → 1 ≤ nd) ∧ (d = 1 → (P.ks nd).isSome = false) ∧ (d ≠ 1 → (P.ks nd).isSome = true) ∧ (d = 1 ∨ d = 3 → 0 ≤ wt ∧ wt ≤ P.cap) := by
  unfold PSt.may at hm
  have h1 : ¬ (d < 1 ∨ 4 < d) := fun h1 => by rw [if_pos h1] at hm; omega
  rw [if_neg h1] at hm
  have h2 : ¬ (d = 1 ∧ (nd < 1 ∨ 65536 < nd)) := fun h1 => by rw [if_pos h1] at hm; omega
  rw [if_neg h2] at hm
  have h3 : ¬ (d ≠ 1 ∧ (P.ks nd).isSome = false) := fun h1 => by rw [if_pos h1] at hm; omega
  rw [if_neg h3] at hm
  refine ⟨by omega, fun h => by omega, fun h => ?_, fun h => ?_, fun h => ?_⟩
  · rw [if_neg (by omega)] at hm
    by_cases hv : heavyN P.cap wt ≠ 0
    · rw [if_pos hv] at hm; exact absurd hm hv
    · rw [if_neg hv] at hm
      cases hq : (P.ks nd).isSome with
      | false => rfl
      | true => rw [if_pos ⟨h, hq⟩] at hm; omega
  · cases hq : (P.ks nd).isSome with
    | true => rfl
    | false => exact absurd ⟨h, hq⟩ h3
  · rw [if_neg (by omega)] at hm
    by_cases hv : heavyN P.cap wt ≠ 0
    · rw [if_pos hv] at hm; exact absurd hm hv
    · have hz : heavyN P.cap wt = 0 := by omega
      unfold heavyN at hz
      by_cases q1 : wt < 0
      · rw [if_pos q1] at hz; omega
      · rw [if_neg q1] at hz
        by_cases q2 : 2147483648 < wt ∨ P.cap < wt
        · rw [if_pos q2] at hz; omega
        · omega
theorem in_set (id x y : Int) (l : List (Int × Int)) : inL y (setL id x l) = inL y l := by
  rw [Bool.eq_iff_iff, in_ids, in_ids, ids_set]
structure ActOk (P : PSt) (d nd wt : Int) (r : PSt × List Int × Int) : Prop where
  dd : 1 ≤ d ∧ d ≤ 4
  new : d = 1 → P.has nd = false
  old : d ≠ 1 → P.has nd = true
  ww : d = 1 ∨ d = 3 → 0 ≤ wt ∧ wt ≤ P.cap
  all : r.1.all.Perm (outL r.2.1 (preL P.all d nd wt))
  nod : r.2.1.Nodup
  sub : ∀ x ∈ r.2.1, inL x (preL P.all d nd wt) = true
  none : sumW (preL P.all d nd wt) ≤ P.cap → r.2.1 = []
  le : d = 1 ∨ d = 3 → r.1.wt ≤ P.cap
  still : d = 2 ∨ d = 4 → r.2.1 = []
theorem act_spec {P : PSt} (h : GoodP P) (d nd key wt : Int) : GoodP (P.act d nd key wt).1 ∧ (P.act d nd key wt).1.cap = P.cap ∧ ((P.act d nd key wt).2.2 = 0 → ActOk P d nd wt (P.act d nd key wt)) := by
  unfold PSt.act
  by_cases hm : P.may d nd wt ≠ 0
  · rw [if_pos hm]
    exact ⟨h, rfl, fun h => absurd h hm⟩
  · rw [if_neg hm]
    obtain ⟨m1, m2, m3, m4, m5⟩ := may_ok (show P.may d nd wt = 0 by omega)
    rw [h.ks, ← all_has] at m3 m4
    by_cases e1 : d = 1
    · subst e1
      rw [if_pos rfl]
      have hp := add_all P nd key wt
      have w := settle_went (h.add nd key wt (m2 rfl) (m5 (.inl rfl)).1 (m3 rfl))
      have hc : (P.add nd key wt).cap = P.cap := count_cap _ _
      have hpre : preL P.all 1 nd wt = P.all ++ [(nd, wt)] := if_pos rfl
      refine ⟨w.good, w.cap.trans hc, fun _ => ⟨m1, fun _ => m3 rfl, fun h => absurd rfl h, m5, ?_, w.nd, ?_, ?_, fun _ => by rw [← hc]; exact w.wt, fun h => by omega⟩⟩
      · rw [hpre]
        exact w.all.trans (hp.filter _)
      · intro x hx
        rw [hpre, ← inL_perm hp]
        exact w.sub x hx
      · intro hs
        refine w.none ?_
        rw [hpre, ← sumW_perm hp, ← all_wt] at hs
        rw [hc]
        exact hs
    · rw [if_neg e1]
      have hh := m4 e1
      by_cases e3 : d = 3
      · subst e3
        rw [if_pos rfl]
        have hg := h.reweigh nd wt (m5 (.inr rfl)).1
        have hh2 : (P.reweigh nd wt).has nd = true := by rw [all_has, all_reweigh, in_set, ← all_has]; exact hh
        obtain ⟨r1, r2, r3⟩ := all_read hg hh2
        have hg2 := hg.of_perm r1 r2 r3
        have w := settle_went hg2
        have hc : ((P.reweigh nd wt).read nd).cap = P.cap := r3
        have hp : ((P.reweigh nd wt).read nd).all.Perm (setL nd wt P.all) := by rw [← all_reweigh]; exact r1
        have hpre : preL P.all 3 nd wt = setL nd wt P.all := rfl
        refine ⟨w.good, w.cap.trans hc, fun _ => ⟨m1, fun h => absurd h (by decide), fun _ => hh, m5, ?_, w.nd, ?_, ?_, fun _ => by rw [← hc]; exact w.wt, fun h => by omega⟩⟩
        · rw [hpre]
          exact w.all.trans (hp.filter _)
        · intro x hx
          rw [hpre, ← inL_perm hp]
          exact w.sub x hx
        · intro hs
          refine w.none ?_
          rw [hpre, ← sumW_perm hp, ← all_wt] at hs
          rw [hc]
          exact hs
      · rw [if_neg e3]
        by_cases e2 : d = 2
        · subst e2
          rw [if_pos rfl]
          obtain ⟨r1, r2, r3⟩ := all_read h hh
          have hpre : preL P.all 2 nd wt = P.all := rfl
          refine ⟨h.of_perm r1 r2 r3, r3, fun _ => ⟨m1, fun h => absurd h (by decide), fun _ => hh, m5, ?_, List.nodup_nil, (fun x hx => by cases hx), fun _ => rfl, fun h => by omega, fun _ => rfl⟩⟩
          rw [hpre, out_nil]
          exact r1
        · rw [if_neg e2]
          have e4 : d = 4 := by omega
          subst e4
          have hpre : preL P.all 4 nd wt = remL nd P.all := rfl
          refine ⟨h.drop nd, rfl, fun _ => ⟨m1, fun h => absurd h (by decide), fun _ => hh, m5, ?_, List.nodup_nil, (fun x hx => by cases hx), fun _ => rfl, fun h => by omega, fun _ => rfl⟩⟩
          rw [hpre, out_nil]
          show (P.drop nd).all.Perm _
          rw [all_drop]
theorem sum_rem (id : Int) : ∀ l : List (Int × Int), (∀ p ∈ l, 1 ≤ p.1 ∧ 0 ≤ p.2) → sumW (remL id l) ≤ sumW l
  | [], _ => Int.le_refl _
  | p :: l, h => by
    have ih := sum_rem id l (fun q hq => h q (List.mem_cons_of_mem _ hq))
    have hp := h p List.mem_cons_self
    by_cases e : p.1 = id
    · have : remL id (p :: l) = remL id l := List.filter_cons_of_neg (by simpa using e)
      rw [this]
      show _ ≤ p.2 + sumW l
      omega
    · have : remL id (p :: l) = p :: remL id l := List.filter_cons_of_pos (by simpa using e)
      rw [this]
      show p.2 + _ ≤ p.2 + sumW l
      omega
theorem sum_set (id x : Int) {l : List (Int × Int)} (hn : (idsL l).Nodup) (hp : ∀ p ∈ l, 1 ≤ p.1 ∧ 0 ≤ p.2) (hx : 0 ≤ x) : sumW (setL id x l) ≤ sumW l + x ∧ (setL id x l).length = l.length := by
  refine ⟨?_, List.length_map ..⟩
  cases h : inL id l with
  | true =>
    obtain ⟨xs, z, ys, e1, -, -, e2⟩ := split_in hn h
    have hz := (hp (id, z) (by rw [e1]; simp)).2
    rw [e2 x, e1, sumW_append, sumW_append]
    show sumW xs + (x + sumW ys) ≤ sumW xs + (z + sumW ys) + x
    have : 0 ≤ z := hz
    omega
  | false =>
    rw [(rem_out h).2 x]
    omega
theorem pre_sum {P : PSt} (h : GoodP P) (d nd : Int) {wt : Int} (hw : 0 ≤ wt) : sumW (preL P.all d nd wt) ≤ P.wt + wt ∧ (preL P.all d nd wt).length ≤ P.len + 1 := by
  rw [all_wt, all_len]
  unfold preL
  split
  · rw [sumW_append, List.length_append]
    exact ⟨by show _ + (wt + 0) ≤ _; omega, Nat.le_refl _⟩
  · split
    · have := sum_set nd wt h.nd h.pos hw
      omega
    · split
      · have h1 := sum_rem nd P.all h.pos
        have h2 := (rem_len nd P.all).1
        omega
      · omega
/-- where what is ever added weighs no more than the capacity none goes -/
theorem play_keeps : ∀ (l : List (Int × Int × Int × Int)) (P : PSt) (S : Int), GoodP P → (∀ e ∈ l, 0 ≤ e.2.2.2) → P.wt ≤ S → S + (l.map (fun e => e.2.2.2)).sum ≤ P.cap →
    (P.play l).2 = [] ∧ GoodP (P.play l).1 ∧ (P.play l).1.wt ≤ S + (l.map (fun e => e.2.2.2)).sum ∧ (P.play l).1.len ≤ P.len + l.length
  | [], P, S, h, _, hS, _ => ⟨rfl, h, by show P.wt ≤ S + 0; omega, Nat.le_refl _⟩
  | e :: l, P, S, h, hw, hS, hc => by
    obtain ⟨a1, a2, a3⟩ := act_spec h e.1 e.2.1 e.2.2.1 e.2.2.2
    have hw0 := hw e List.mem_cons_self
    have hsl : 0 ≤ (l.map (fun e => e.2.2.2)).sum := by
      have : ∀ q : List (Int × Int × Int × Int), (∀ e ∈ q, 0 ≤ e.2.2.2) → 0 ≤ (q.map (fun e => e.2.2.2)).sum := by
        intro q
        induction q with
        | nil => intro _; exact Int.le_refl _
        | cons x q ih =>
          intro hq
          have h1 := ih (fun e he => hq e (List.mem_cons_of_mem _ he))
          have h2 := hq x List.mem_cons_self
          rw [List.map_cons, List.sum_cons]
          omega
      exact this l (fun e he => hw e (List.mem_cons_of_mem _ he))
    rw [List.map_cons, List.sum_cons] at hc ⊢
    have key : (P.act e.1 e.2.1 e.2.2.1 e.2.2.2).2.1 = [] ∧ (P.act e.1 e.2.1 e.2.2.1 e.2.2.2).1.wt ≤ S + e.2.2.2 ∧ (P.act e.1 e.2.1 e.2.2.1 e.2.2.2).1.len ≤ P.len + 1 := by
      by_cases he : (P.act e.1 e.2.1 e.2.2.1 e.2.2.2).2.2 = 0
      · have ok := a3 he
        obtain ⟨s1, s2⟩ := pre_sum h e.1 e.2.1 hw0
        have hn := ok.none (by omega)
        have hall := ok.all
        rw [hn, out_nil] at hall
        refine ⟨hn, ?_, ?_⟩
        · rw [all_wt, sumW_perm hall]
          omega
        · rw [all_len, hall.length_eq]
          exact s2
      · obtain ⟨b1, b2⟩ := act_bad he
        rw [b1, b2]
        exact ⟨rfl, by omega, Nat.le_succ _⟩
    have ih := play_keeps l _ (S + e.2.2.2) a1 (fun e he => hw e (List.mem_cons_of_mem _ he)) key.2.1 (by rw [a2]; omega)
    refine ⟨?_, ih.2.1, ?_, ?_⟩
    · show _ ++ _ = []
      rw [key.1, ih.1]
      rfl
    · exact Int.le_trans ih.2.2.1 (by omega)
    · refine Nat.le_trans ih.2.2.2 ?_
      rw [List.length_cons]
      have := key.2.2
      omega
theorem play_good : ∀ (l : List (Int × Int × Int × Int)) (P : PSt), GoodP P → GoodP (P.play l).1
  | [], _, h => h
  | e :: l, _, h => play_good l _ (act_spec h e.1 e.2.1 e.2.2.1 e.2.2.2).1
end Go.Proofs.Ytnhdjpeadhcajaa
namespace Go.Proofs.Ytnhdjpeadhcajaa
open Go.RowKit Go.Sep DqPure
set_option maxRecDepth 100000
set_option maxHeartbeats 1600000 in
theorem has_calls (v : Value) (l : List Int) (x : Int) (w : World) (hv : Reads w v l) :
    Calls Try.prog 11 #[v, .int .i64 x] w fun e w' => e = .returned (.bool (decide (x ∈ l))) ∧ w' = w := by
  obtain ⟨h1, A, c, rfl, h2⟩ := hv
  have hyes : ∀ k, k < l.length → l.getD k 0 = x → decide (x ∈ l) = true := fun k hk e => by
    rw [← e]
    simp [List.getD, hk]
  have hno : (∀ i, i < l.length → l.getD i 0 ≠ x) → decide (x ∈ l) = false := fun h => by
    rw [decide_eq_false]
    intro hm
    obtain ⟨i, hi, e⟩ := List.getElem_of_mem hm
    exact h i hi (by simp [List.getD, hi, e])
  generalize decide (x ∈ l) = b at *
  generalize hn : l.length = n at *
  clear hn
  have HY := Lib.hid hyes
  have HN := Lib.hid hno
  have H2 := Lib.hid h2
  clear hyes hno h2
  go_enter Try.func11, Try.ntmps11
  go_wp2
  go_loopw [5] (fun x5 wr => ∃ k : Nat, k ≤ n ∧ x5 = .int .i64 k ∧ Hid (∀ i, i < k → l.getD i 0 ≠ x) ∧ wr = w) (fun x5 _ => n - (intOf x5).toNat)
  case atStart => exact ⟨0, Nat.zero_le _, rfl, Lib.hid (fun i hi => by omega), rfl⟩
  case round =>
    obtain ⟨k, hk, rfl, hs, rfl⟩ := hrel
    by_cases hlt : k < n
    · obtain ⟨bb, o, rfl, hc⟩ := H2.out (by omega)
      have ca := hc k hlt
      by_cases he : l.getD k 0 = x
      · have hb := HY.out k hlt he
        subst hb
        rw [he] at ca
        clear hc he
        go_wp2
        go_ret
        exact ⟨rfl, rfl⟩
      · have hs2 : ∀ i, i < k + 1 → l.getD i 0 ≠ x := fun i hi => by
          by_cases hik : i < k
          · exact hs.out i hik
          · rw [show i = k by omega]; exact he
        have HS := Lib.hid hs2
        have d1 : decide (l.getD k 0 = x) = false := by simp only [decide_eq_false_iff_not]; exact he
        clear hs2 hs hc
        generalize l.getD k 0 = y at *
        go_wp2
        go_roundw
        case rel => exact ⟨k + 1, by omega, by go_num, HS, trivial⟩
        case measure => simp [intOf]; omega
    · obtain rfl : k = n := by omega
      have hb := HN.out hs.out
      subst hb
      clear hs
      go_wp2
      go_ret
      exact ⟨rfl, rfl⟩
theorem row_0 (P : PSt) : P.row 0 = idsL P.a := rfl
theorem row_1 (P : PSt) : P.row 1 = idsL P.b := rfl
theorem row_2 (P : PSt) : P.row 2 = idsL P.c := rfl
def rowsN_ (P : PSt) : Nat → Nat
  | 0 => 0
  | i + 1 => rowsN_ P i + (P.row (i : Int)).length
theorem rows_len (P : PSt) : rowsN_ P 3 = P.len := by
  show 0 + (P.row 0).length + (P.row 1).length + (P.row 2).length = _
  rw [row_0, row_1, row_2]
  unfold idsL PSt.len
  rw [List.length_map, List.length_map, List.length_map]
  omega
/-- the last of the rows below i that holds a node -/
def wasN (P : PSt) (id : Int) : Nat → Int
  | 0 => -1
  | i + 1 => if decide (id ∈ P.row (i : Int)) = true then (i : Int) else wasN P id i
theorem GoodP.apart {P : PSt} (h : GoodP P) {id : Int} (ha : inL id P.a = true) : inL id P.b = false ∧ inL id P.c = false := by
  have hn := h.nd
  unfold PSt.all idsL at hn
  rw [List.map_append] at hn
  have h2 := (List.nodup_append.1 hn).2.2
  have h3 : ∀ y ∈ (P.b ++ P.c).map (·.1), id ≠ y := fun y hy => h2 id (in_ids.1 ha) y hy
  rw [List.map_append] at h3
  constructor
  · rw [Bool.eq_false_iff]
    intro hb
    exact h3 id (List.mem_append_left _ (in_ids.1 hb)) rfl
  · rw [Bool.eq_false_iff]
    intro hc
    exact h3 id (List.mem_append_right _ (in_ids.1 hc)) rfl
theorem was_3 {P : PSt} (h : GoodP P) (id : Int) : decide (wasN P id 3 = 0) = inL id P.a ∧ decide (wasN P id 3 < 0) = !P.has id ∧ -1 ≤ wasN P id 3 ∧ wasN P id 3 ≤ 2 := by
  have e : wasN P id 3 = if decide (id ∈ idsL P.c) = true then 2 else if decide (id ∈ idsL P.b) = true then 1 else if decide (id ∈ idsL P.a) = true then 0 else -1 := rfl
  have f : ∀ l : List (Int × Int), decide (id ∈ idsL l) = inL id l := fun l => by
    rw [Bool.eq_iff_iff, in_ids, decide_eq_true_iff]
  rw [f, f, f] at e
  unfold PSt.has
  cases ha : inL id P.a with
  | true =>
    obtain ⟨hb, hc⟩ := h.apart ha
    rw [ha, hb, hc] at e
    rw [e, hb, hc]
    decide
  | false =>
    rw [ha] at e
    rw [e]
    cases inL id P.c <;> cases inL id P.b <;> decide
theorem read_a (P : PSt) (id : Int) : inL id (P.read id).a = inL id P.a := by
  have hc : ∀ (Q : PSt) (hit : Bool), (Q.count hit).a = Q.a := fun Q hit => by
    unfold PSt.count
    split <;> rfl
  unfold PSt.read
  rw [hc]
  show inL id (PSt.touch _ id).a = _
  unfold PSt.touch
  by_cases hb : inL id P.b = true
  · rw [if_pos (show inL id (P.record (P.key id)).b = true from hb)]
    rfl
  · rw [if_neg (show ¬ inL id (P.record (P.key id)).b = true from hb)]
    by_cases ha : inL id P.a = true
    · rw [if_pos (show inL id (P.record (P.key id)).a = true from ha)]
      show inL id (remL id P.a ++ [(id, _)]) = _
      rw [inL_append, inL_one, decide_eq_true rfl, Bool.or_true, ha]
    · rw [if_neg (show ¬ inL id (P.record (P.key id)).a = true from ha)]
      rfl
theorem act_read {P : PSt} (h : GoodP P) (id : Int) : (P.has id = false → P.act 2 id 0 0 = (P, [], 3)) ∧ (P.has id = true → P.act 2 id 0 0 = (P.read id, [], 0)) := by
  have hk : (P.ks id).isSome = P.has id := by rw [h.ks, all_has]
  constructor
  · intro hh
    have hm : P.may 2 id 0 = 3 := by
      unfold PSt.may
      rw [if_neg (by omega), if_neg (by omega), if_pos ⟨by omega, by rw [hk, hh]⟩]
    unfold PSt.act
    rw [hm]
    rfl
  · intro hh
    have hm : P.may 2 id 0 = 0 := by
      unfold PSt.may
      rw [if_neg (by omega), if_neg (by omega), if_neg (fun h => by rw [hk, hh] at h; exact absurd h.2 (by decide)), if_pos (.inl rfl)]
    unfold PSt.act
    rw [hm]
    rfl
end Go.Proofs.Ytnhdjpeadhcajaa
