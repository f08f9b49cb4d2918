/- Merged texts: Layer 5: plain facts on filters; the statements' small case comes out right; FilterAlone. Layer 11: many events are done, one behind the other. Layer 11: the statements' small case, by the model. -/
import Derived.Test.YtnhdjpeadhcajaaK15
import Derived.Test.YtnhdjpeadhcajaaK05
import Derived.Test.YtnhdjpeadhcajaaK43
import Derived.Test.YtnhdjpeadhcajaaK32
import Derived.Test.YtnhdjpeadhcajaaK44
namespace Go.Proofs.Ytnhdjpeadhcajaa
open Go.RowKit NibPure Go.Sep DoorPure
theorem min_if2 : ∀ x y : Int, (if x < y then x else y) = min y x := fun x y => by split <;> omega
theorem FilterAt.len {g n : Nat} {seed : Int} {st : FSt} {r : Sep.Own} (h : FilterAt g seed n st r) : 1 ≤ st.B.length := by
  obtain ⟨gc, gd, gs, gb, rs, rd, rfl, hs, hd⟩ := h.open_
  have := hd.le
  omega
theorem FilterAt.n_le {g n : Nat} {seed : Int} {st : FSt} {r : Sep.Own} (h : FilterAt g seed n st r) : (1 ≤ n ∧ n ≤ 4096) ∧ st.N < 160 * n := by
  obtain ⟨gc, gd, gs, gb, rs, rd, rfl, hs, hd⟩ := h.open_
  exact hs.n_le
theorem FSt.next_A (seed : Int) (n : Nat) (st : FSt) (key : Int) : (st.next seed n key).A = st.A ∨ (st.next seed n key).A = st.A + 1 := by
  unfold FSt.next
  split
  · cases st.aged seed n key <;> simp
  · exact Or.inl rfl
theorem FSt.next_lo {seed : Int} {n : Nat} {st : FSt} (key : Int) (h : Lo st.S) : Lo (st.next seed n key).S := by
  unfold FSt.next
  split
  · exact addOf_lo h _ _
  · exact h
theorem FSt.often_le {seed : Int} {n : Nat} {st : FSt} (key : Int) (h : Lo st.S) : st.often seed n key ≤ 16 := by
  have := mnS_lo h (plS seed key (16 * n))
  unfold FSt.often
  split <;> omega
/-- a key that came alone, i times -/
structure AloneF (seed key : Int) (n i : Nat) (st : FSt) : Prop where
  S : st.S = aloneS (plS seed key (16 * n)) (i - 1)
  N : st.N = min (i - 1) 15
  A : st.A = 0
  B : hasB seed key st.B = decide (1 ≤ i)
theorem AloneF.zero (seed key : Int) (n : Nat) (cap : Int) : AloneF seed key n 0 (FSt.new cap) :=
  ⟨(aloneS_zero _).symm, rfl, rfl, by unfold FSt.new; rw [has_zero]; rfl⟩
theorem AloneF.next {seed key : Int} {n i : Nat} {st : FSt} (h : AloneF seed key n i st) (hn : 1 ≤ n) (hl : 1 ≤ st.B.length) : AloneF seed key n (i + 1) (st.next seed n key) := by
  have hb := h.B
  by_cases h1 : 1 ≤ i
  · rw [decide_eq_true h1] at hb
    have hm : st.more seed n key = decide (i - 1 < 15) := by unfold FSt.more; rw [h.S, aloneS_any]
    have ha : st.aged seed n key = false := by
      unfold FSt.aged
      rw [h.N, decide_eq_false (by omega)]
      cases st.more seed n key <;> rfl
    unfold FSt.next
    rw [if_pos hb, hm, ha]
    have e : i - 1 + 1 = i := by omega
    refine ⟨?_, ?_, h.A, ?_⟩
    · show addOf st.S _ false = _
      rw [h.S, aloneS_add, e]; rfl
    · show numOf st.N _ false = _
      rw [h.N, numOf_alone, e]; rfl
    · rw [decide_eq_true (show 1 ≤ i + 1 by omega)]
      simp [has_put seed key hl]
  · obtain rfl : i = 0 := by omega
    rw [decide_eq_false h1] at hb
    unfold FSt.next
    rw [if_neg (by rw [hb]; simp)]
    exact ⟨h.S, h.N, h.A, by show hasB seed key (putB seed key st.B) = _; rw [has_put _ _ hl]; rfl⟩
theorem AloneF.often {seed key : Int} {n i : Nat} {st : FSt} (h : AloneF seed key n i st) : st.often seed n key = min i 16 := by
  unfold FSt.often
  rw [h.S, aloneS_min, h.B]
  by_cases h1 : 1 ≤ i
  · rw [decide_eq_true h1, if_pos rfl]; omega
  · rw [decide_eq_false h1, if_neg (by simp)]; omega
def FAt (w0 : World) (F : Sep.Own) (g : Nat) (seed : Int) (n : Nat) (P : FSt → Prop) (w : World) : Prop := ∃ st r, FilterAt g seed n st r ∧ P st ∧ Owned w0 w (r ++ F)
end Go.Proofs.Ytnhdjpeadhcajaa
namespace Go.Proofs.Ytnhdjpeadhcajaa
open Go.RowKit Go.Sep DqPure
set_option maxRecDepth 100000
/-- events, in a row of four numbers each -/
def evL (len : Nat) (f : Nat → Nat → Int) : List (Int × Int × Int × Int) := (List.range len).map (fun i => (f i 0, f i 1, f i 2, f i 3))
theorem evL_succ (i : Nat) (f : Nat → Nat → Int) : evL (i + 1) f = evL i f ++ [(f i 0, f i 1, f i 2, f i 3)] := by unfold evL; rw [List.range_succ, List.map_append]; rfl
theorem play_snoc (e : Int × Int × Int × Int) : ∀ (l : List (Int × Int × Int × Int)) (P : PSt), (P.play (l ++ [e])).1 = ((P.play l).1.act e.1 e.2.1 e.2.2.1 e.2.2.2).1 ∧ (P.play (l ++ [e])).2 = (P.play l).2 ++ ((P.play l).1.act e.1 e.2.1 e.2.2.1 e.2.2.2).2.1
  | [], P => ⟨rfl, List.append_nil _⟩
  | x :: l, P => by
    obtain ⟨h1, h2⟩ := play_snoc e l (P.act x.1 x.2.1 x.2.2.1 x.2.2.2).1
    have h3 := congrArg (fun z => (P.act x.1 x.2.1 x.2.2.1 x.2.2.2).2.1 ++ z) h2
    exact ⟨h1, h3.trans (List.append_assoc _ _ _).symm⟩
theorem ints_app (a b : List Int) : ints (a ++ b) = ints a ++ ints b := List.map_append
section
variable {g k : Nat} {P : PSt} {F : Sep.Own} {w0 w : World}
/-- a row of events that can be read whenever F is there -/
structure EvIn (w0 : World) (F : Sep.Own) (v : Value) (len : Nat) (f : Nat → Nat → Int) : Prop where
  v : ∃ A c, v = .slice A len c ∧ (0 < len → ∃ b o, A = some ⟨b, o, none⟩ ∧ ∀ (W : World) (q : Sep.Own), Owned w0 W (q ++ F) → ∀ i j, i < len → j < 4 → W.cell? ⟨b, o + (i * 4 + j), none⟩ = some (.int .i64 (f i j)))
  wf : ∀ i j, i < len → j < 4 → wfk (f i j)
theorem EvIn.more {v : Value} {len : Nat} {f : Nat → Nat → Int} (h : EvIn w0 F v len f) (G : Sep.Own) : EvIn w0 (G ++ F) v len f := by
  obtain ⟨⟨A, c, rfl, hA⟩, hw⟩ := h
  refine ⟨⟨A, c, rfl, fun hp => ?_⟩, hw⟩
  obtain ⟨b, o, rfl, hc⟩ := hA hp
  exact ⟨b, o, rfl, fun W q hO => hc W (q ++ G) (by rw [List.append_assoc]; exact hO)⟩
theorem EvIn.of_old {v : Value} {len : Nat} {f : Nat → Nat → Int} (h : ReadsR 4 w0 v len f) : EvIn w0 F v len f := by
  obtain ⟨hl, hb, A, c, rfl, hA, -⟩ := h
  refine ⟨⟨A, c, rfl, fun hp => ?_⟩, fun i j hi hj => wfk_of (hb i j hi hj).1 (hb i j hi hj).2⟩
  obtain ⟨b, o, rfl, hc⟩ := hA hp
  exact ⟨b, o, rfl, fun W q hO i j hi hj => (hO.below.cell (World.block_lt_of_cell? _ _ (hc i j hi hj))).trans (hc i j hi hj)⟩
theorem appendS {w : World} {q : Sep.Own} {p : Nat × Obj} (h : Owned w0 w (q ++ (p :: F))) : Owned w0 w (q ++ F) := (h.perm List.perm_middle).tail
set_option maxHeartbeats 6400000 in
theorem p_play {v : Value} {len : Nat} {f : Nat → Nat → Int} (hv : EvIn w0 F v len f) (hlen : len ≤ 400) (hk : k ≤ 900000) (hst : Stands w0 F g k P w) :
    Calls Try.prog 16 #[.pointer (some ⟨g, 0, none⟩), v] w fun e w' => ∃ u rq, e = .returned u ∧ Row 3 1 u (P.play (evL len f)).2.length (ints (P.play (evL len f)).2) rq ∧ Stands w0 (rq ++ F) g (k + 2 * len) (P.play (evL len f)).1 w' := by
  have HV := Lib.hid hv
  obtain ⟨⟨A, c, rfl, hA⟩, hw⟩ := hv
  have HA := Lib.hid hA
  have HW := Lib.hid hw
  have HST := Lib.hid hst
  clear hA hw hst
  go_enter Try.func16, Try.ntmps16
  go_wp2
  go_loopw [5, 12] (fun x5 x12 wr => ∃ (i : Nat) (rq : Sep.Own), i ≤ len ∧ x12 = .int .i64 i ∧ (P.play (evL i f)).2.length ≤ i * 4000000 ∧ Hid (Row 3 1 x5 (P.play (evL i f)).2.length (ints (P.play (evL i f)).2) rq) ∧ Hid (Stands w0 (rq ++ F) g (k + 2 * i) (P.play (evL i f)).1 wr)) (fun _ x12 _ => len - (intOf x12).toNat)
  case atStart => exact ⟨0, [], Nat.zero_le _, rfl, Nat.le_refl _, Lib.hid (Row.nil _ _), HST⟩
  case round =>
    obtain ⟨i, rq, hi, rfl, hL, hrow, hst⟩ := hrel
    by_cases hlt : i < len
    · obtain ⟨b, off, rfl, hcells⟩ := HA.out (by omega)
      obtain ⟨hp1, hp2⟩ := play_snoc (f i 0, f i 1, f i 2, f i 3) (evL i f) P
      rw [← evL_succ] at hp1 hp2
      have HP1 := Lib.hid hp1
      have HP2 := Lib.hid hp2
      clear hp1 hp2
      generalize (P.play (evL i f)).1 = Pi at *
      generalize (P.play (evL i f)).2 = L at *
      obtain ⟨r, hr, hO⟩ := hst.out
      have ho2 : Owned w0 wr ((r ++ rq) ++ F) := by rw [List.append_assoc]; exact hO
      have t0 : wr.cell? ⟨b, off + i * 4, none⟩ = some (.int .i64 (f i 0)) := hcells wr _ ho2 i 0 hlt (by omega)
      have t1 : wr.cell? ⟨b, off + i * 4 + 1, none⟩ = some (.int .i64 (f i 1)) := hcells wr _ ho2 i 1 hlt (by omega)
      have t2 : wr.cell? ⟨b, off + i * 4 + 2, none⟩ = some (.int .i64 (f i 2)) := hcells wr _ ho2 i 2 hlt (by omega)
      have t3 : wr.cell? ⟨b, off + i * 4 + 3, none⟩ = some (.int .i64 (f i 3)) := hcells wr _ ho2 i 3 hlt (by omega)
      have hw1 := HW.out i 1 hlt (by omega)
      have hw2 := HW.out i 2 hlt (by omega)
      have hO3 := hO.alloc (.cells #[.int .i64 (f i 0), .int .i64 (f i 1), .int .i64 (f i 2), .int .i64 (f i 3)] 28)
      have hst3 : Stands w0 ((wr.heap.size, .cells #[.int .i64 (f i 0), .int .i64 (f i 1), .int .i64 (f i 2), .int .i64 (f i 3)] 28 (0, 0)) :: (rq ++ F)) g (k + 2 * i) Pi _ := ⟨r, hr, hO3.perm List.perm_middle.symm⟩
      have hlw := World.block_lt_of_cell? _ _ t0
      clear hO hr ho2 hO3 hst hcells
      obtain ⟨gf, gd, gm, rf, rd, o, n, hin, hO4⟩ := hst3.open_
      generalize f i 0 = x0 at *
      generalize f i 1 = x1 at *
      generalize f i 2 = x2 at *
      generalize f i 3 = x3 at *
      have cd := p_do hin (by omega) x0 x1 x2 x3 hw1 hw2 hO4
      clear hw1 hw2 hin hO4 hst3
      have HROW := hrow
      go_wp2_with fail
      go_at_call 12
      refine (cd).mono ?_
      rintro e w4 ⟨u, rq2, rfl, hrow2, hst4, hlen2⟩
      obtain ⟨r4, hr4, hO4⟩ := hst4.less2
      have hO5 := hO4.third.perm (List.Perm.append_left rq (perm2 r4 rq2 F))
      have HR4 := Lib.hid hr4
      have hrow1 := HROW.out
      generalize hact : (Pi.act x0 x1 x2 x3).2.1 = M at *
      generalize hac1 : (Pi.act x0 x1 x2 x3).1 = P2 at *
      have HP3 := Lib.hid (And.intro HP1.out HP2.out)
      obtain ⟨p, hp⟩ : ∃ p, L.length = p := ⟨_, rfl⟩
      obtain ⟨q, hq⟩ : ∃ q, M.length = q := ⟨_, rfl⟩
      rw [hp] at hrow1 hL
      rw [hq] at hrow2 hlen2
      have hm1 : p + q ≤ maxLen := by unfold maxLen; omega
      have hm2 : (p + q) * 8 ≤ 140737488355328 := by omega
      have hone : ∀ u ∈ ints M, u.oneCell' = true := fun u hu => by
        obtain ⟨z, -, rfl⟩ := List.mem_map.1 hu
        rfl
      have HLEN := Lib.hid (show (L ++ M).length = p + q by rw [List.length_append, hp, hq])
      have HROW2 := Lib.hid hrow2
      have HONE := Lib.hid hone
      have HO5 := Lib.hid hO5
      have HROW1 := Lib.hid hrow1
      clear hr4 hO4 hO5 hst4 hact hac1 hp hq hrow2 hone hrow1 HROW hrow HP1 HP2 cd t0 t1 t2 t3
      go_wp2_with (at_builtin; refine append_rows rfl (.tmp 22) (.tmp 23) 26 rfl 3 (.int .i64 0) 1 8 Try.underlying26 info_int8 rfl (by omega) _ _ p q _ _ rq rq2 _ rfl rfl HROW1.out HROW2.out HO5.out HONE.out hm1 hm2 ?_; intro v5 rq5 w5 hrow5 hO5; have HROW5 := Lib.hid hrow5; have HO6 := Lib.hid hO5; clear hrow5 hO5)
      go_roundw
      case rel =>
        have e1 : (P.play (evL (i + 1) f)).2 = L ++ M := HP3.out.2
        have e2 : (P.play (evL (i + 1) f)).1 = P2 := HP3.out.1
        refine ⟨i + 1, rq5, hlt, by go_num, ?_, Lib.hid ?_, Lib.hid ?_⟩
        · rw [e1, HLEN.out]
          omega
        · rw [e1, HLEN.out, ints_app]
          exact HROW5.out
        · rw [e2]
          exact ⟨r4, HR4.out, (HO6.out.sub ((List.Sublist.refl rq5).append (List.sublist_append_right rq2 _))).comm⟩
      case measure => simp [intOf]; omega
    · obtain rfl : i = len := by omega
      go_wp2
      go_ret
      exact ⟨_, rq, rfl, hrow.out, hst.out⟩
end
end Go.Proofs.Ytnhdjpeadhcajaa
namespace Go.Proofs.Ytnhdjpeadhcajaa
open Go.RowKit Go.Sep DqPure
set_option maxRecDepth 100000
/-- the small case's policy behind some events -/
def smP (sd : Int) (wd : Nat) (F : FSt) (a b : List (Int × Int)) (ks : Int → Option Int) (m : Int) : PSt := ⟨2, 20, sd, wd, F, a, b, [], ks, 1, 0, m, 0, 1⟩
theorem sm_new : PSt.new 2 1 = smP 1 (wordN 2) (FSt.new 2) [] [] (fun _ => none) 0 := rfl
variable {sd : Int} {wd : Nat} {F : FSt}
theorem sm_add (a b : List (Int × Int)) (ks : Int → Option Int) (m : Int) (h0 : 0 ≤ m) (h1 : m ≤ 10) (nd : Int) : (smP sd wd F a b ks m).add nd 7 1 = smP sd wd (F.next sd wd 7) (a ++ [(nd, 1)]) b (updK ks nd (some 7)) (m + 1) := by
  have hc : ((smP sd wd F a b ks m).record 7).counted false = smP sd wd (F.next sd wd 7) a b ks (m + 1) := by
    unfold PSt.counted PSt.record smP cntM cntH fitN fitL fitS cl
    simp
    omega
  have hd : dueB (smP sd wd (F.next sd wd 7) a b ks (m + 1)).ch (smP sd wd (F.next sd wd 7) a b ks (m + 1)).cm (smP sd wd F a b ks m).per = false := by
    show (decide (0 < (20 : Int)) && decide ((20 : Int) ≤ fitN 0 + fitN (m + 1))) = false
    have e : fitN (m + 1) = m + 1 := by unfold fitN cl; omega
    have e0 : fitN 0 = 0 := by decide
    rw [e, e0, decide_eq_false (show ¬ (20 : Int) ≤ 0 + (m + 1) by omega)]
    rfl
  unfold PSt.add PSt.count
  rw [hc]
  rw [show ((smP sd wd F a b ks m).record 7).per = (smP sd wd F a b ks m).per from rfl, hd]
  rfl
theorem sm1 : (smP sd wd F [] [] (fun _ => none) 0).act 1 1 7 1 = (smP sd wd (F.next sd wd 7) [(1, 1)] [] (updK (fun _ => none) 1 (some 7)) 1, [], 0) := by
  unfold PSt.act
  rw [if_neg (fun h => h rfl), if_pos rfl, sm_add _ _ _ _ (by decide) (by decide)]
  rfl
theorem sm2_ : (smP sd wd F [(1, 1)] [] (updK (fun _ => none) 1 (some 7)) 1).act 1 2 7 1 = (smP sd wd (F.next sd wd 7) [(2, 1)] [(1, 1)] (updK (updK (fun _ => none) 1 (some 7)) 2 (some 7)) 2, [], 0) := by
  unfold PSt.act
  rw [if_neg (fun h => h rfl), if_pos rfl, sm_add _ _ _ _ (by decide) (by decide)]
  rfl
/-- the numbers' keys behind three -/
def smK : Int → Option Int := updK (updK (fun _ => none) 1 (some 7)) 2 (some 7)
def smK3 : Int → Option Int := updK (updK smK 3 (some 7)) 2 none
theorem sm_next (m : Int) : (smP sd wd F [(3, 1)] [(1, 1), (2, 1)] (updK smK 3 (some 7)) m).next = 2 := by
  show (if (1 : Int) = 0 then _ else if (1 : Int) = 2 ∨ (smP sd wd F [(3, 1)] [(1, 1), (2, 1)] (updK smK 3 (some 7)) m).oft 7 < (smP sd wd F [(3, 1)] [(1, 1), (2, 1)] (updK smK 3 (some 7)) m).oft 7 then (1 : Int) else 2) = 2
  rw [if_neg (by decide), if_neg]
  rintro (h | h)
  · exact absurd h (by decide)
  · exact Nat.lt_irrefl _ h
theorem sm3 : (smP sd wd F [(2, 1)] [(1, 1)] smK 2).act 1 3 7 1 = (smP sd wd (F.next sd wd 7) [(3, 1)] [(1, 1)] smK3 3, [2], 0) := by
  unfold PSt.act
  rw [if_neg (fun h => h rfl), if_pos rfl, sm_add _ _ _ _ (by decide) (by decide)]
  have e : (smP sd wd (F.next sd wd 7) ([(2, 1)] ++ [(3, 1)]) [(1, 1)] (updK smK 3 (some 7)) (2 + 1)).settle = (smP sd wd (F.next sd wd 7) [(3, 1)] [(1, 1)] smK3 3, [2]) := by
    show PSt.settleN 3 (smP sd wd (F.next sd wd 7) [(3, 1)] [(1, 1), (2, 1)] (updK smK 3 (some 7)) 3) = _
    rw [PSt.settleN, if_pos (by show (2 : Int) < 3; decide), sm_next]
    rfl
  rw [e]
theorem sm4 (m : Int) : (smP sd wd F [(3, 1)] [(1, 1)] smK3 m).act 1 4 7 3 = (smP sd wd F [(3, 1)] [(1, 1)] smK3 m, [], 4) := by
  unfold PSt.act
  have hm : (smP sd wd F [(3, 1)] [(1, 1)] smK3 m).may 1 4 3 = 4 := rfl
  rw [hm]
  rfl
/-- how often the key came -/
theorem sm_often : ((((FSt.new 2).next 1 (wordN 2) 7).next 1 (wordN 2) 7).next 1 (wordN 2) 7).often 1 (wordN 2) 7 = 3 := by
  have hl : ∀ F : FSt, 1 ≤ F.B.length → 1 ≤ (F.next 1 (wordN 2) 7).B.length := fun F h => by
    unfold FSt.next
    split
    · show 1 ≤ (if _ then _ else _ : List Bool).length
      split
      · rw [List.length_replicate, putB_len]; exact h
      · rw [putB_len]; exact h
    · rw [putB_len]; exact h
  have hn : 1 ≤ wordN 2 := by decide
  have h0 : 1 ≤ (FSt.new 2).B.length := by
    show 1 ≤ (List.replicate (8 * capN ((16 * wordN 2 : Nat) : Int)) false).length
    rw [List.length_replicate]
    have := capN_in ((16 * wordN 2 : Nat) : Int)
    omega
  have h1 := AloneF.next (AloneF.zero 1 7 (wordN 2) 2) hn h0
  have h2 := h1.next hn (hl _ h0)
  have h3 := h2.next hn (hl _ (hl _ h0))
  rw [h3.often]
  rfl
end Go.Proofs.Ytnhdjpeadhcajaa
