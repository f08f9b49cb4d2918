/- Merged texts: Layer 11, PolicySingle: of nodes of one key the one that came into probation last goes. -/
import Derived.Test.YtnhdjpeadhcajaaK49
namespace Go.Proofs.Ytnhdjpeadhcajaa
open Go.RowKit Go.Sep DqPure
set_option maxRecDepth 100000
/-- the nodes 1 .. m, each of weight 1 -/
def upTo : Nat → List (Int × Int)
  | 0 => []
  | m + 1 => upTo m ++ [((m : Int) + 1, 1)]
theorem upTo_sum : ∀ m, sumW (upTo m) = m
  | 0 => rfl
  | m + 1 => by
    rw [upTo, sumW_append, upTo_sum m]
    show (m : Int) + (1 + 0) = _
    omega
theorem upTo_mem : ∀ (m : Nat) (p : Int × Int), p ∈ upTo m → 1 ≤ p.1 ∧ p.1 ≤ m
  | 0, p, h => by cases h
  | m + 1, p, h => by
    rw [upTo] at h
    rcases List.mem_append.1 h with h | h
    · have := upTo_mem m p h
      omega
    · obtain rfl : p = ((m : Int) + 1, 1) := by simpa using h
      exact ⟨by show 1 ≤ (m : Int) + 1; omega, by show (m : Int) + 1 ≤ ((m + 1 : Nat) : Int); omega⟩
theorem upTo_head : ∀ m, 0 < m → ∀ q, headI (upTo m ++ q) = 1
  | 0, h, _ => absurd h (by omega)
  | 1, _, _ => rfl
  | m + 2, _, q => by
    rw [upTo, List.append_assoc]
    exact upTo_head (m + 1) (by omega) _
structure Sg (C i : Nat) (P : PSt) : Prop where
  cap : P.cap = C
  per : P.per = 10 * (C : Int)
  qw : P.qw = 1
  ch : P.ch = 0
  cm : P.cm = i
  l0 : P.cl = 0
  cs : P.cs = firstN C
  a : P.a = if i = 0 then [] else [((i : Int), 1)]
  b : P.b = upTo (min (i - 1) (C - 1))
  c : P.c = []
  good : GoodP P
  k7 : ∀ x v, P.ks x = some v → v = 7
theorem Sg.new {C : Nat} (h1 : 2 ≤ C) (h2 : C ≤ 50) (seed : Int) : Sg C 0 (PSt.new C seed) := by
  have e : newC (C : Int) = C := by unfold newC; omega
  have e2 : newN (C : Int) = C := by unfold newN; rw [e]; omega
  refine ⟨e, ?_, ?_, rfl, rfl, rfl, ?_, rfl, ?_, rfl, new_good _ _, fun x v h => by cases h⟩
  · show 10 * newN (C : Int) = _; rw [e2]
  · show ofW (newC (C : Int)) = 1
    rw [e]
    unfold ofW
    rw [show ofC (C : Int) = C by unfold ofC cl; omega]
    unfold cl lo hi
    rw [if_neg (by omega), if_neg (by omega)]
    omega
  · show firstN (newC (C : Int)) = _; rw [e]
  · show [] = _
    rw [show min (0 - 1) (C - 1) = 0 by omega]
    rfl
theorem settleN_le (q : Nat) {P : PSt} (h : P.wt ≤ P.cap) : PSt.settleN q P = (P, []) := by
  cases q with
  | zero => rfl
  | succ q => rw [PSt.settleN, if_neg (by omega)]
theorem Sg.counted {C i : Nat} {P : PSt} (h : Sg C i P) (hC : 2 ≤ C ∧ C ≤ 50) (hi : i + 1 < 10 * C) : (P.record 7).count false = { P with fl := P.fl.next P.sd P.wd 7, ch := 0, cm := (i : Int) + 1, cl := 0, cs := firstN C } := by
  have hf := firstN_in (C : Int)
  have hc : (P.record 7).counted false = { P with fl := P.fl.next P.sd P.wd 7, ch := 0, cm := (i : Int) + 1, cl := 0, cs := firstN C } := by
    have e1 : cntH false (P.record 7).ch = 0 := by show cntH false P.ch = 0; rw [h.ch]; rfl
    have e2 : cntM false (P.record 7).cm = (i : Int) + 1 := by
      show cntM false P.cm = _
      rw [h.cm]
      show fitN (fitN (i : Int) + 1) = _
      unfold fitN cl
      omega
    have e3 : fitL (P.record 7).cl = 0 := by show fitL P.cl = 0; rw [h.l0]; rfl
    have e4 : fitS (P.record 7).cs = firstN C := by
      show fitS P.cs = _
      rw [h.cs]
      unfold fitS cl
      omega
    unfold PSt.counted
    rw [e1, e2, e3, e4]
    rfl
  unfold PSt.count
  rw [hc]
  have hd : dueB (0 : Int) ((i : Int) + 1) (P.record 7).per = false := by
    show (decide (0 < P.per) && decide (P.per ≤ fitN 0 + fitN ((i : Int) + 1))) = false
    rw [h.per]
    have e : fitN ((i : Int) + 1) = (i : Int) + 1 := by unfold fitN cl; omega
    have e0 : fitN 0 = 0 := by decide
    rw [e, e0, decide_eq_false (show ¬ 10 * (C : Int) ≤ 0 + ((i : Int) + 1) by omega), Bool.and_false]
  rw [if_neg (by rw [hd]; simp)]
theorem Sg.step {C i : Nat} {P : PSt} (h : Sg C i P) (hC : 2 ≤ C ∧ C ≤ 50) (hi : i + 1 < 10 * C) (hi2 : i < 100) :
    ∃ P', P.act 1 ((i : Int) + 1) 7 1 = (P', if i + 1 ≤ C then [] else [(i : Int)], 0) ∧ Sg C (i + 1) P' := by
  have hall : ∀ p ∈ P.all, p.1 ≤ (i : Int) := by
    intro p hp
    unfold PSt.all at hp
    rw [h.a, h.b, h.c] at hp
    rcases List.mem_append.1 hp with hp | hp
    · split at hp
      · cases hp
      · obtain rfl : p = ((i : Int), 1) := by simpa using hp
        exact Int.le_refl _
    · rw [List.append_nil] at hp
      have := upTo_mem _ _ hp
      omega
  have hno : inL ((i : Int) + 1) P.all = false := by
    rw [Bool.eq_false_iff]
    intro hc
    obtain ⟨p, hp, e⟩ := in_iff.1 hc
    have := hall p hp
    omega
  have hks : (P.ks ((i : Int) + 1)).isSome = false := by rw [h.good.ks]; exact hno
  have hm : P.may 1 ((i : Int) + 1) 1 = 0 := by
    have hv : heavyN P.cap 1 = 0 := by
      unfold heavyN
      rw [h.cap, if_neg (by omega), if_neg (by omega)]
    unfold PSt.may
    rw [if_neg (by omega), if_neg (by omega), if_neg (by omega), if_neg (by omega), hv, if_neg (by omega), if_neg (by rw [hks]; simp)]
  have spec := act_spec h.good 1 ((i : Int) + 1) 7 1
  unfold PSt.act at spec ⊢
  rw [if_neg (by rw [hm]; simp), if_pos rfl] at spec ⊢
  have hcnt := h.counted hC hi
  have hadd : P.add ((i : Int) + 1) 7 1 = { P with fl := P.fl.next P.sd P.wd 7, ch := 0, cm := (i : Int) + 1, cl := 0, cs := firstN C, a := P.a ++ [((i : Int) + 1, 1)], ks := updK P.ks ((i : Int) + 1) (some 7) } := by
    unfold PSt.add
    rw [hcnt]
  have hk7 : ∀ x v, updK P.ks ((i : Int) + 1) (some 7) x = some v → v = 7 := fun x v hx => by
    by_cases e : x = (i : Int) + 1
    · rw [e, updK_same] at hx
      injection hx with hx
      exact hx.symm
    · rw [updK_ne _ _ e] at hx
      exact h.k7 x v hx
  by_cases h0 : i = 0
  · subst h0
    have ha : P.a = [] := by rw [h.a]; rfl
    have hb : P.b = [] := by rw [h.b, show min (0 - 1) (C - 1) = 0 by omega]; rfl
    have hpass : (P.add ((0 : Nat) : Int) 7 1).qw = 1 → True := fun _ => trivial
    have hs : (P.add (((0 : Nat) : Int) + 1) 7 1).settle = (P.add (((0 : Nat) : Int) + 1) 7 1, []) := by
      have e1 : (P.add (((0 : Nat) : Int) + 1) 7 1).passA = P.add (((0 : Nat) : Int) + 1) 7 1 := by
        rw [hadd]
        unfold PSt.passA
        rw [ha, h.qw]
        rfl
      unfold PSt.settle
      rw [e1]
      refine settleN_le _ ?_
      rw [hadd, ha]
      unfold PSt.wt
      show (1 + 0 : Int) + sumW P.b + sumW P.c ≤ P.cap
      rw [hb, h.c, h.cap]
      show (1 + 0 + 0 + 0 : Int) ≤ C
      omega
    rw [hs] at spec ⊢
    refine ⟨_, by rw [if_pos (by omega)], ?_⟩
    refine ⟨?_, ?_, ?_, ?_, ?_, ?_, ?_, ?_, ?_, ?_, spec.1, ?_⟩
    all_goals rw [hadd]
    · exact h.cap
    · exact h.per
    · exact h.qw
    · rfl
    · show P.a ++ _ = _
      rw [ha]
      rfl
    · show P.b = _
      rw [hb, show min (0 + 1 - 1) (C - 1) = 0 by omega]
      rfl
    · exact h.c
    · exact hk7
  · have ha : P.a = [((i : Int), 1)] := by rw [h.a, if_neg h0]
    have hpl : passL P.qw (P.a ++ [((i : Int) + 1, 1)]) P.b = ([((i : Int) + 1, 1)], P.b ++ [((i : Int), 1)]) := by
      rw [ha, h.qw]
      show passL 1 [((i : Int), 1), ((i : Int) + 1, 1)] P.b = _
      rw [passL, if_pos (by show (1 : Int) < 1 + (1 + 0); omega), passL, if_neg (by show ¬ (1 : Int) < 1 + 0; omega)]
    obtain ⟨P1, hP1⟩ : ∃ P1 : PSt, P1 = (P.add ((i : Int) + 1) 7 1).passA := ⟨_, rfl⟩
    have f1 : P1 = { P with fl := P.fl.next P.sd P.wd 7, ch := 0, cm := (i : Int) + 1, cl := 0, cs := firstN C, a := [((i : Int) + 1, 1)], b := P.b ++ [((i : Int), 1)], ks := updK P.ks ((i : Int) + 1) (some 7) } := by
      rw [hP1, hadd]
      unfold PSt.passA
      show ({ P with fl := _, ch := _, cm := _, cl := _, cs := _, a := (passL P.qw (P.a ++ [((i : Int) + 1, 1)]) P.b).1, b := (passL P.qw (P.a ++ [((i : Int) + 1, 1)]) P.b).2, ks := _ } : PSt) = _
      rw [hpl]
    have hw1 : P1.wt = 1 + (((min (i - 1) (C - 1) : Nat) : Int) + 1) := by
      rw [f1]
      unfold PSt.wt
      show (1 + 0) + sumW (P.b ++ [((i : Int), 1)]) + sumW P.c = _
      rw [sumW_append, h.b, upTo_sum, h.c]
      show (1 + 0 : Int) + (_ + (1 + 0)) + 0 = _
      omega
    have hcap1 : P1.cap = C := by rw [f1]; exact h.cap
    unfold PSt.settle at spec ⊢
    rw [← hP1] at spec ⊢
    by_cases hle : i + 1 ≤ C
    · have hs := settleN_le (P.add ((i : Int) + 1) 7 1).len (P := P1) (by rw [hw1, hcap1]; omega)
      rw [hs] at spec ⊢
      refine ⟨P1, by rw [if_pos hle], ?_⟩
      refine ⟨?_, ?_, ?_, ?_, ?_, ?_, ?_, ?_, ?_, ?_, spec.1, ?_⟩
      all_goals rw [f1]
      · exact h.cap
      · exact h.per
      · exact h.qw
      · rfl
      · show _ = if i + 1 = 0 then _ else _
        rw [if_neg (by omega)]
        rfl
      · show P.b ++ _ = _
        rw [h.b, show min (i - 1) (C - 1) = i - 1 by omega, show min (i + 1 - 1) (C - 1) = (i - 1) + 1 by omega, upTo]
        rw [show (((i - 1 : Nat) : Int) + 1) = (i : Int) by omega]
      · exact h.c
      · exact hk7
    · have hmin : min (i - 1) (C - 1) = C - 1 := by omega
      have hbb : P1.b = upTo (C - 1) ++ [((i : Int), 1)] := by rw [f1]; show P.b ++ _ = _; rw [h.b, hmin]
      have hnext : P1.next = (i : Int) := by
        unfold PSt.next
        have hh : headI P1.b = 1 := by rw [hbb]; exact upTo_head _ (by omega) _
        have hl : lastI P1.b = (i : Int) := by rw [hbb]; exact lastI_snoc _ _ _
        have hG1 : GoodP P1 := by
          rw [hP1]
          have hg := h.good.add ((i : Int) + 1) 7 1 (by omega) (by omega) (by rw [all_has]; exact hno)
          exact hg.of_perm (all_passA _) rfl rfl
        have hkey : ∀ x, inL x P1.b = true → P1.key x = 7 := fun x hx => by
          have hs : (P1.ks x).isSome = true := by
            rw [hG1.ks]
            unfold PSt.all
            rw [inL_append, inL_append, hx]
            simp
          unfold PSt.key
          cases hq : P1.ks x with
          | none => rw [hq] at hs; cases hs
          | some v =>
            have := hk7 x v (by rw [f1] at hq; exact hq)
            show v = 7
            exact this
        have hk1 := hkey (headI P1.b) (ends_mem P1.b (by rw [hh]; omega)).1
        have hk2 := hkey (lastI P1.b) (ends_mem P1.b (by rw [hh]; omega)).2
        rw [hk1, hk2, hh, hl, if_neg (by omega), if_neg]
        rintro (q | q)
        · omega
        · exact Nat.lt_irrefl _ q
      have hremb : remL (i : Int) P1.b = upTo (C - 1) := by
        rw [hbb, rem_append]
        have e1 : remL (i : Int) (upTo (C - 1)) = upTo (C - 1) := List.filter_eq_self.2 (fun p hp => by
          have := upTo_mem _ _ hp
          simp
          omega)
        have e2 : remL (i : Int) [((i : Int), (1 : Int))] = [] := List.filter_cons_of_neg (by simp)
        rw [e1, e2, List.append_nil]
      have hrema : remL (i : Int) [((i : Int) + 1, (1 : Int))] = [((i : Int) + 1, 1)] := List.filter_cons_of_pos (by simp; omega)
      have hd : P1.drop (i : Int) = { P with fl := P.fl.next P.sd P.wd 7, ch := 0, cm := (i : Int) + 1, cl := 0, cs := firstN C, a := [((i : Int) + 1, 1)], b := upTo (C - 1), ks := updK (updK P.ks ((i : Int) + 1) (some 7)) (i : Int) none } := by
        unfold PSt.drop
        rw [hremb, f1]
        show ({ P with fl := _, ch := _, cm := _, cl := _, cs := _, a := remL (i : Int) [((i : Int) + 1, (1 : Int))], b := _, c := remL (i : Int) P.c, ks := _ } : PSt) = _
        rw [hrema, h.c]
        have : remL (i : Int) ([] : List (Int × Int)) = [] := rfl
        rw [this, ← h.c]
      have hwd : (P1.drop (i : Int)).wt ≤ (P1.drop (i : Int)).cap := by
        rw [hd]
        unfold PSt.wt
        show (1 + 0) + sumW (upTo (C - 1)) + sumW P.c ≤ P.cap
        rw [upTo_sum, h.c, h.cap]
        show (1 + 0 : Int) + _ + 0 ≤ _
        omega
      have hlen : ∃ q, (P.add ((i : Int) + 1) 7 1).len = q + 1 := ⟨_, (by
        rw [hadd]
        unfold PSt.len
        show (P.a ++ [((i : Int) + 1, (1 : Int))]).length + P.b.length + P.c.length = (1 + P.b.length + P.c.length) + 1
        rw [ha]
        show 2 + _ + _ = _
        omega)⟩
      obtain ⟨q, hq⟩ := hlen
      have hs : PSt.settleN (P.add ((i : Int) + 1) 7 1).len P1 = (P1.drop (i : Int), [(i : Int)]) := by
        rw [hq, PSt.settleN, if_pos (by rw [hw1, hcap1]; omega), hnext, settleN_le q hwd]
      rw [hs] at spec ⊢
      refine ⟨P1.drop (i : Int), by rw [if_neg hle], ?_⟩
      refine ⟨?_, ?_, ?_, ?_, ?_, ?_, ?_, ?_, ?_, ?_, spec.1, ?_⟩
      all_goals rw [hd]
      · exact h.cap
      · exact h.per
      · exact h.qw
      · rfl
      · show _ = if i + 1 = 0 then _ else _
        rw [if_neg (by omega)]
        rfl
      · show upTo (C - 1) = _
        rw [show min (i + 1 - 1) (C - 1) = C - 1 by omega]
      · exact h.c
      · intro x v hx
        by_cases e : x = (i : Int)
        · rw [e] at hx
          rw [show ({ P with fl := P.fl.next P.sd P.wd 7, ch := 0, cm := (i : Int) + 1, cl := 0, cs := firstN C, a := [((i : Int) + 1, 1)], b := upTo (C - 1), ks := updK (updK P.ks ((i : Int) + 1) (some 7)) (i : Int) none } : PSt).ks (i : Int) = none from updK_same _ _ _] at hx
          cases hx
        · exact hk7 x v (by rw [← updK_ne (updK P.ks ((i : Int) + 1) (some 7)) none e]; exact hx)
theorem Sg.wt {C i : Nat} {P : PSt} (h : Sg C i P) (hC : 2 ≤ C) : P.wt = ((min i C : Nat) : Int) ∧ P.row 2 = [] := by
  constructor
  · unfold PSt.wt
    rw [h.a, h.b, h.c, upTo_sum]
    by_cases h0 : i = 0
    · subst h0
      rw [if_pos rfl]
      show (0 : Int) + _ + 0 = _
      omega
    · rw [if_neg h0]
      show (1 + 0 : Int) + _ + 0 = _
      omega
  · rw [row_2, h.c]
    rfl
end Go.Proofs.Ytnhdjpeadhcajaa
