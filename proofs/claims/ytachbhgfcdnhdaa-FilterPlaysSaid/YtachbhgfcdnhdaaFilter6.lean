/- Layer 5: the document's filter (pantryref05). -/
import Derived.Test.YtachbhgfcdnhdaaFilter3
import Derived.Test.YtachbhgfcdnhdaaRefSk2
import Derived.Test.YtachbhgfcdnhdaaDoorRef2
import Derived.Test.YtachbhgfcdnhdaaDoorRef3
namespace Go.Proofs.Ytachbhgfcdnhdaa
open Go.RowKit NibPure Go.Sep DoorPure
/-- the document's filter in memory: the three blocks of its own first, then its sketch, then its door -/
def rfB (g gs gd A : Nat) : Own := [(g, .cells #[.pointer (some ⟨gs, 0, none⟩), .pointer (some ⟨gd, 0, none⟩), .int .i64 (A : Int)] 34 (0, 0))]
def RefF (g : Nat) (seed : Int) (n : Nat) (st : FSt) (r : Own) : Prop :=
  ∃ gs gd b bs, r = rfB g gs gd st.A ++ (rsB gs seed (16 * n) st.N bs st.S ++ rdB gd b seed st.B) ∧ Lo st.S ∧ (1 ≤ n ∧ n ≤ 4096) ∧ st.N ≤ 1000000 ∧ 1 ≤ st.B.length ∧ st.B.length ≤ 1000000
section
variable {g gs gd A n : Nat} {seed : Int} {st : FSt} {w0 w : World} {F r : Own}
theorem rfB_0 (h : Owned w0 w (rfB g gs gd A ++ F)) : w.cell? ⟨g, 0, none⟩ = some (.pointer (some ⟨gs, 0, none⟩)) := (Owned.cell h 0).trans rfl
theorem rfB_1 (h : Owned w0 w (rfB g gs gd A ++ F)) : w.cell? ⟨g, 1, none⟩ = some (.pointer (some ⟨gd, 0, none⟩)) := (Owned.cell h 1).trans rfl
theorem rfB_2 (h : Owned w0 w (rfB g gs gd A ++ F)) : w.cell? ⟨g, 2, none⟩ = some (.int .i64 (A : Int)) := (Owned.cell h 2).trans rfl
theorem rfB_free (h : Owned w0 w (rfB g gs gd A ++ F)) : w.frozen? ⟨g, 2, none⟩ = false := Owned.frozen h 2
theorem rfB_set (h : Owned w0 w (rfB g gs gd A ++ F)) (v : Nat) : Owned w0 (w.setCell ⟨g, 2, none⟩ (.int .i64 (v : Int))) (rfB g gs gd v ++ F) := Owned.set h 2 _
theorem RefF.ages (hr : RefF g seed n st r) (h : Owned w0 w (r ++ F)) : w.cell? ⟨g, 2, none⟩ = some (.int .i64 (st.A : Int)) := by
  obtain ⟨gs, gd, b, bs, rfl, _⟩ := hr
  rw [List.append_assoc] at h
  exact rfB_2 h
set_option maxHeartbeats 1600000 in
theorem rf_new (cap seed : Int) (h : Owned w0 w F) :
    Calls Try.prog 9 #[.int .i64 cap, .int .i64 seed] w fun e w' => ∃ g r, e = .returned (.pointer (some ⟨g, 0, none⟩)) ∧ RefF g seed (wordN cap) (FSt.new cap) r ∧ Owned w0 w' (r ++ F) := by
  have cs := rs_new cap seed h
  have cd := fun (w : World) (F : Own) (h : Owned w0 w F) => rnew ((16 * wordN cap : Nat) : Int) seed h
  obtain ⟨_, n1, n2⟩ := wordN_16 cap
  obtain ⟨n, hn⟩ : ∃ n, wordN cap = n := ⟨_, rfl⟩
  have hst : FSt.new cap = ⟨0, fun _ _ => 0, List.replicate (8 * capN ((16 * n : Nat) : Int)) false, 0⟩ := by unfold FSt.new; rw [hn]
  rw [hst]
  rw [hn] at cs cd n1 n2 ⊢
  have hcp := capN_in ((16 * n : Nat) : Int)
  have HCP := Lib.hid (show 1 ≤ 8 * capN ((16 * n : Nat) : Int) ∧ 8 * capN ((16 * n : Nat) : Int) ≤ 1000000 from by omega)
  have HD := Lib.hid cd
  clear hst hn h cd hcp
  go_enter Try.func9, Try.ntmps9
  go_wp2_with fail
  go_at_call 19
  refine (cs).mono ?_
  rintro e w1 ⟨gs, bs, rfl, hO⟩
  have HO := Lib.hid hO
  have c0 := rs_c0 HO.out
  clear cs hO
  go_wp2_with fail
  go_at_call 20
  refine (HD.out _ _ HO.out).mono ?_
  rintro e w3 ⟨gd, b, rfl, hO3⟩
  have HO3 := Lib.hid hO3
  clear hO3
  go_wp2_with fail
  go_ret
  have h4 := HO3.out.alloc (.cells #[.pointer (some ⟨gs, 0, none⟩), .pointer (some ⟨gd, 0, none⟩), .int .i64 0] 34)
  refine ⟨w3.heap.size, _, rfl, ⟨gs, gd, b, bs, rfl, fun _ _ => Nat.zero_le _, ⟨n1, n2⟩, Nat.zero_le _, by rw [List.length_replicate]; exact HCP.out.1, by rw [List.length_replicate]; exact HCP.out.2⟩, ?_⟩
  refine h4.perm ?_
  simp only [List.append_assoc]
  exact List.Perm.cons _ (perm2 _ _ F)
set_option maxHeartbeats 1600000 in
theorem rf_often (key : Int) {m : Nat} (hm : st.often seed n key = m) (hr : RefF g seed n st r) (h : Owned w0 w (r ++ F)) :
    Calls Try.prog 12 #[.pointer (some ⟨g, 0, none⟩), .int .i64 key] w fun e w' => e = .returned (.int .i64 (m : Nat)) ∧ Owned w0 w' (r ++ F) := by
  subst hm
  obtain ⟨gs, gd, b, bs, rfl, hlo, ⟨n1, n2⟩, hN, hB1, hB2⟩ := hr
  obtain ⟨c, hc⟩ : ∃ c, mnS st.S (plS seed key (16 * n)) 4 = c := ⟨_, rfl⟩
  obtain ⟨t, hb⟩ : ∃ b, hasB seed key st.B = b := ⟨_, rfl⟩
  have hof : st.often seed n key = c + if t = true then 1 else 0 := by unfold FSt.often; rw [hc, hb]
  have hcl := mnS_le st.S (plS seed key (16 * n)) 4
  rw [hc] at hcl
  rw [hof]
  rw [List.append_assoc, List.append_assoc] at h
  have hc' : mnD st.S (plS seed key (16 * n)) 4 = c := by rw [mnD_four hlo, hc]
  have c0 := rfB_0 h
  have HCS := Lib.hid (rs_count key (W := 16 * n) (by omega) (by omega) rfl hc' h.comm)
  have hcd := fun (W : World) (h : Owned w0 W (rfB g gs gd st.A ++ (rsB gs seed (16 * n) st.N bs st.S ++ (rdB gd b seed st.B ++ F)))) => rhas key hB1 hB2 h.third
  rw [hb] at hcd
  have HCD := Lib.hid hcd
  have HO := Lib.hid h
  clear hc hb hof h hlo hcd hc'
  cases t
  all_goals
    go_enter Try.func12, Try.ntmps12
    go_wp2_with fail
    go_at_call 27
    refine (HCS.out).mono ?_
    rintro e w1 ⟨rfl, hb1⟩
    have HO1 := Lib.hid (HO.out.under hb1)
    have c1 := rfB_1 HO1.out
    clear hb1
    go_wp2_with fail
    go_at_call 28
    refine (HCD.out _ HO1.out).mono ?_
    rintro e w2 ⟨rfl, hb2⟩
    have HO2 := Lib.hid (HO1.out.under hb2)
    clear hb2
    go_wp2_with fail
    go_ret
    exact ⟨by simp, HO2.out⟩
set_option maxHeartbeats 3200000 in
theorem rf_record (key : Int) {st' : FSt} (hst : st.next seed n key = st') (hA : st.A ≤ 1000000) (hN' : st.N < 160 * n) (hr : RefF g seed n st r) (h : Owned w0 w (r ++ F)) :
    Calls Try.prog 11 #[.pointer (some ⟨g, 0, none⟩), .int .i64 key] w fun e w' => e = .returned (.tuple #[]) ∧ ∃ r', RefF g seed n st' r' ∧ Owned w0 w' (r' ++ F) := by
  obtain ⟨gs, gd, b, bs, rfl, hlo, ⟨n1, n2⟩, hN, hB1, hB2⟩ := hr
  rw [List.append_assoc, List.append_assoc] at h
  obtain ⟨t, hb⟩ : ∃ b, hasB seed key st.B = b := ⟨_, rfl⟩
  obtain ⟨more, hm⟩ : ∃ m, st.more seed n key = m := ⟨_, rfl⟩
  obtain ⟨aged, ha⟩ : ∃ a, st.aged seed n key = a := ⟨_, rfl⟩
  have hm2 : anyS st.S (plS seed key (16 * n)) 4 = more := hm
  have ha2 : (more && decide (10 * (16 * n) ≤ st.N + 1)) = aged := by rw [← ha, ← hm, show 10 * (16 * n) = 160 * n by omega]; rfl
  unfold FSt.next at hst
  rw [hb, hm, ha] at hst
  have HNN := Lib.hid (show ∀ more aged, numOf st.N more aged ≤ 1000000 from fun more aged => by unfold numOf; split <;> (try split) <;> omega)
  have HST := Lib.hid hst
  have hpl := putB_len seed key st.B
  have HPL := Lib.hid (show 1 ≤ (putB seed key st.B).length ∧ (putB seed key st.B).length ≤ 1000000 from by rw [hpl]; exact ⟨hB1, hB2⟩)
  have c1 := rfB_1 h
  have cp := fun (W : World) (h : Owned w0 W (rfB g gs gd st.A ++ (rsB gs seed (16 * n) st.N bs st.S ++ (rdB gd b seed st.B ++ F)))) => rput key hB1 hB2 h.third
  rw [hb] at cp
  have CP := Lib.hid cp
  have CS := Lib.hid (fun (W : World) (B : List Bool) (h : Owned w0 W (rfB g gs gd st.A ++ (rsB gs seed (16 * n) st.N bs st.S ++ (rdB gd b seed B ++ F)))) => rs_add key hlo (by omega) (by omega) hN rfl hm2 ha2 h.comm)
  have HO := Lib.hid h
  have LO := Lib.hid hlo
  clear hb hm ha hm2 ha2 hst h cp hlo hpl
  generalize hAA : st.A = A at *
  clear hAA
  cases t with
  | false =>
    go_enter Try.func11, Try.ntmps11
    go_wp2_with fail
    go_at_call 24
    refine (CP.out _ HO.out).mono ?_
    rintro e w1 ⟨rfl, hO1⟩
    have HO1 := Lib.hid hO1.back3
    clear hO1
    go_wp2_with fail
    (try simp only [Exit.inBlock, Exit.then])
    refine bodyPost_ret (results_none rfl _ _ _) rfl ?_
    have e : st' = ⟨st.N, st.S, putB seed key st.B, A⟩ := by rw [← HST.out]; simp
    rw [e]
    exact ⟨rfl, _, ⟨gs, gd, b, bs, rfl, LO.out, ⟨n1, n2⟩, hN, HPL.out.1, HPL.out.2⟩, by rw [List.append_assoc, List.append_assoc]; exact HO1.out⟩
  | true =>
    cases aged with
    | false =>
      have e : st' = ⟨numOf st.N more false, addOf st.S (plS seed key (16 * n)) false, putB seed key st.B, A⟩ := by rw [← HST.out]; simp
      have HE := Lib.hid e
      clear e
      go_enter Try.func11, Try.ntmps11
      go_wp2_with fail
      go_at_call 24
      refine (CP.out _ HO.out).mono ?_
      rintro e w1 ⟨rfl, hO1⟩
      have HO1 := Lib.hid hO1.back3
      have d0 := rfB_0 HO1.out
      clear hO1 c1
      go_wp2_with fail
      go_at_call 25
      refine (CS.out _ _ HO1.out).mono ?_
      rintro e w2 ⟨rfl, hO2⟩
      have HO2 := Lib.hid hO2.comm
      clear hO2
      go_wp2_with fail
      go_end0
      rw [HE.out]
      exact ⟨rfl, _, ⟨gs, gd, b, bs, rfl, addOf_lo LO.out (plS seed key (16 * n)) false, ⟨n1, n2⟩, HNN.out more false, HPL.out.1, HPL.out.2⟩, by rw [List.append_assoc, List.append_assoc]; exact HO2.out⟩
    | true =>
      have e : st' = ⟨numOf st.N more true, addOf st.S (plS seed key (16 * n)) true, List.replicate (putB seed key st.B).length false, A + 1⟩ := by rw [← HST.out]; simp
      have HE := Lib.hid e
      clear e
      go_enter Try.func11, Try.ntmps11
      go_wp2_with fail
      go_at_call 24
      refine (CP.out _ HO.out).mono ?_
      rintro e w1 ⟨rfl, hO1⟩
      have HO1 := Lib.hid hO1.back3
      have d0 := rfB_0 HO1.out
      clear hO1 c1
      go_wp2_with fail
      go_at_call 25
      refine (CS.out _ _ HO1.out).mono ?_
      rintro e w2 ⟨rfl, hO2⟩
      have HO2 := Lib.hid hO2.comm
      have f1 := rfB_1 HO2.out
      clear hO2 d0
      go_wp2_with fail
      go_at_call 26
      refine (rclear HPL.out.2 (Owned.third HO2.out)).mono ?_
      rintro e w3 ⟨rfl, hO3⟩
      have HO3 := Lib.hid hO3.back3
      have g2 := rfB_2 HO3.out
      have g3 := rfB_free HO3.out
      have HO4 := Lib.hid (show Owned w0 (w3.setCell ⟨g, 2, none⟩ (.int .i64 ((A : Int) + 1))) (rfB g gs gd (A + 1) ++ (rsB gs seed (16 * n) (numOf st.N more true) bs (addOf st.S (plS seed key (16 * n)) true) ++ (rdB gd b seed (List.replicate (putB seed key st.B).length false) ++ F))) from rfB_set HO3.out (A + 1))
      clear hO3 f1
      go_wp2_with fail
      go_end0
      rw [HE.out]
      exact ⟨rfl, _, ⟨gs, gd, b, bs, rfl, addOf_lo LO.out (plS seed key (16 * n)) true, ⟨n1, n2⟩, HNN.out more true, by rw [List.length_replicate]; exact HPL.out.1, by rw [List.length_replicate]; exact HPL.out.2⟩, by rw [List.append_assoc, List.append_assoc]; exact HO4.out⟩
end
end Go.Proofs.Ytachbhgfcdnhdaa
