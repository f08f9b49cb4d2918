/- Merged texts: Layer 11: a node is read. -/
import Derived.Test.YtnhdjpeadhcajaaK39
import Derived.Test.YtnhdjpeadhcajaaK37
namespace Go.Proofs.Ytnhdjpeadhcajaa
open Go.RowKit Go.Sep DqPure
set_option maxRecDepth 100000
theorem next_A (sd : Int) (wd : Nat) (st : FSt) (key : Int) : (st.next sd wd key).A ≤ st.A + 1 := by
  unfold FSt.next
  split
  · show (if _ then _ else _) ≤ _
    split
    · exact Nat.le_refl _
    · exact Nat.le_succ _
  · exact Nat.le_succ _
theorem inL_move {id : Int} {l : List (Int × Int)} (h : inL id l = true) (x : Int) : (inL x (remL id l) || decide (id = x)) = inL x l := by
  rw [inL_rem]
  by_cases e : x = id
  · subst e
    rw [if_pos rfl, h]
    simp
  · rw [if_neg e, decide_eq_false (fun h => e h.symm), Bool.or_false]
section
variable {g gf gd gm k n : Nat} {P : PSt} {rf rd r F : Own} {o : Obj} {w0 w : World}
theorem PolIn.up (h : PolIn gf gd k n P rf rd o) : PolIn gf gd (k + 1) n P rf rd o :=
  ⟨h.fil, h.dq, h.map.mono (Nat.le_succ _), h.inv.cap, h.inv.per, h.inv.qw, Nat.le_succ_of_le h.inv.age, Nat.le_succ_of_le h.inv.n, h.inv.ks⟩
/-- behind a record -/
theorem PolIn.recorded (h : PolIn gf gd k n P rf rd o) (key : Int) {rf' : Own} (hf : FilterAt gf P.sd P.wd (P.fl.next P.sd P.wd key) rf') : PolIn gf gd (k + 1) n (P.record key) rf' rd o :=
  ⟨hf, h.dq, h.map.mono (Nat.le_succ _), h.inv.cap, h.inv.per, h.inv.qw, Nat.le_trans (next_A _ _ _ _) (Nat.succ_le_succ h.inv.age), Nat.le_succ_of_le h.inv.n, h.inv.ks⟩
theorem PolInv.rows (h : PolInv k n P) {a b c : List (Int × Int)} (hh : ∀ x, (inL x a || (inL x b || inL x c)) = P.has x) : PolInv k n { P with a := a, b := b, c := c } :=
  ⟨h.cap, h.per, h.qw, h.age, h.n, fun x hx => (h.ks x hx).trans (hh x).symm⟩
set_option maxHeartbeats 6400000 in
theorem p_read (h : PolIn gf gd k n P rf rd o) (id : Int) (hid : P.has id = true) (hk : k ≤ 999999) (hO : Owned w0 w (polB g gf gd gm P o ++ (rf ++ (rd ++ F)))) :
    Calls Try.prog 31 #[.pointer (some ⟨g, 0, none⟩), .int .i64 id] w fun e w' => e = .returned (.tuple #[]) ∧ Stands w0 F g (k + 1) (P.read id) w' := by
  have hwf := wfk_id (h.wf id hid)
  have hnk := h.inv.n
  have hin := fun (rf' : Own) (hf : FilterAt gf P.sd P.wd (P.fl.next P.sd P.wd (P.key id)) rf') => h.recorded (P.key id) hf
  have hrec := fun (W : World) (hW : Owned w0 W (polB g gf gd gm P o ++ (rf ++ (rd ++ F)))) => f_record (P.key id) rfl (show P.fl.A ≤ 1000000 by have := h.inv.age; omega) h.fil hW.comm
  have lk := h.key1 id hO.drew hwf
  have c2 := (polB_cell hO.drew 2).trans (show (polC gf gd gm P)[2]? = some (.pointer (some ⟨gf, 0, none⟩)) from rfl)
  have c4 := (polB_cell hO.drew 4).trans (show (polC gf gd gm P)[4]? = some (.map (some gm)) from rfl)
  have hP : P.read id = ((P.record (P.key id)).touch id).count true := rfl
  have hid1 : (P.record (P.key id)).has id = true := hid
  have HIN := Lib.hid hin
  have HREC := Lib.hid hrec
  have HO := Lib.hid hO
  rw [hP]
  have hcB := fun (rf' : Own) (W : World) (hW : Owned w0 W (polB g gf gd gm P o ++ (rf' ++ (rd ++ F)))) => (hW : Owned w0 W (polB g gf gd gm (P.record (P.key id)) o ++ (rf' ++ (rd ++ F))))
  have hcB : ∀ (rf' : Own) (W : World), Owned w0 W (polB g gf gd gm P o ++ (rf' ++ (rd ++ F))) → Owned w0 W (polB g gf gd gm (P.record (P.key id)) o ++ (rf' ++ (rd ++ F))) := fun _ _ hW => hW
  have HCB := Lib.hid hcB
  clear hin hrec hO hP hid h hcB
  generalize P.record (P.key id) = P1 at *
  generalize P.key id = ky at *
  have HH := Lib.hid hid1
  go_enter Try.func31, Try.ntmps31
  go_wp2_with fail
  go_upto_region 0 with (fail)
  go_cut [] (fun wc => Hid (∃ rf', PolIn gf gd (k + 1) n P1 rf' rd o ∧ Owned w0 wc (polB g gf gd gm P1 o ++ (rf' ++ (rd ++ F)))))
  case first =>
    go_region_with (go_at_call 26; (with_reducible refine (HREC.out _ HO.out.drew).mono ?_); rintro e w2 ⟨rfl, rf2, hf2, hO2⟩; have HO2 := Lib.hid (HCB.out _ _ hO2.comm); have HF2 := Lib.hid hf2; clear hO2 hf2)
    all_goals (go_wp2_with fail)
    all_goals
      go_meet
      case rel => exact Lib.hid ⟨rf2, HIN.out _ HF2.out, HO2.out⟩
  case rest =>
    obtain ⟨rf2, hin, hO⟩ := hcut.out
    clear hcut HIN HREC HCB HO lk c2 c4
    have hd : DqAt gd 3 n (st3 P1.a P1.b P1.c) rd := hin.dq
    have hof := d3_of hwf hd hO.third
    have c3 := (polB_cell hO 3).trans (show (polC gf gd gm P1)[3]? = some (.pointer (some ⟨gd, 0, none⟩)) from rfl)
    have hc3 : ∀ (rd' : Own) (W : World), Owned w0 W (polB g gf gd gm P1 o ++ (rf2 ++ (rd' ++ F))) → W.cell? ⟨g, 3, none⟩ = some (.pointer (some ⟨gd, 0, none⟩)) ∧ W.cell? ⟨g, 7, none⟩ = some (.int .i64 P1.pq) := fun _ W hW => ⟨(polB_cell hW 3).trans rfl, (polB_cell hW 7).trans rfl⟩
    have HC3 := Lib.hid hc3
    have hn6 : n ≤ 1000000 := by omega
    have ap := apart3 hd id
    have hh := HH.out
    unfold PSt.has at hh
    by_cases hb : inL id P1.b = true
    · obtain ⟨ha, hc⟩ := ap.2.1 hb
      have hrow : rowI id P1.a P1.b P1.c = 1 := by unfold rowI; rw [ha, hb]; rfl
      rw [hrow] at hof
      obtain ⟨P2, hP2⟩ : ∃ P2 : PSt, { P1 with b := remL id P1.b, c := P1.c ++ [(id, wtL id P1.b)] } = P2 := ⟨_, rfl⟩
      have htc : P1.touch id = P2.passC := by unfold PSt.touch; rw [if_pos hb, ← hP2]
      have hin2 : ∀ rd', DqAt gd 3 n (st3 P1.a (remL id P1.b) (P1.c ++ [(id, wtL id P1.b)])) rd' → PolIn gf gd (k + 1) n P2 rf2 rd' o := fun rd' hd' => by
        rw [← hP2]
        refine ⟨hin.fil, hd', hin.map, hin.inv.rows (fun x => ?_)⟩
        rw [inL_append, inL_one]
        show _ = (inL x P1.a || (inL x P1.b || inL x P1.c))
        rw [← inL_move hb x]
        cases inL x P1.a <;> cases inL x (remL id P1.b) <;> cases inL x P1.c <;> cases decide (id = x) <;> rfl
      have hob : ∀ (rd' : Own) (W : World), Owned w0 W (polB g gf gd gm P1 o ++ (rf2 ++ (rd' ++ F))) → Owned w0 W (polB g gf gd gm P2 o ++ (rf2 ++ (rd' ++ F))) := fun rd' W hW => by rw [← hP2]; exact hW
      have hpq : P1.pq = P2.pq := by rw [← hP2]; rfl
      have hmv := fun (W : World) (hW : Owned w0 W (polB g gf gd gm P1 o ++ (rf2 ++ (rd ++ F)))) => d3_moveBC hb hn6 hd hW.third
      have HTC := Lib.hid htc
      have HIN2 := Lib.hid hin2
      have HOB := Lib.hid hob
      have HMV := Lib.hid hmv
      have HO := Lib.hid hO
      rw [hpq] at HC3
      clear hin hd ap hh ha hc hrow hP2 htc hin2 hob hmv hb hc3 hO hpq
      go_wp2_with fail
      go_at_call 56
      refine (hof).mono ?_
      rintro e w3 ⟨⟨z, rfl⟩, hb3⟩
      have c33 := (HC3.out _ _ (HO.out.under hb3)).1
      have hm3 := HMV.out _ (HO.out.under hb3)
      clear c3 hof
      go_wp2_with fail
      go_at_call 57
      refine (hm3).mono ?_
      rintro e w4 ⟨⟨z2, rfl⟩, rd4, hd4, hO4⟩
      have HO4 := Lib.hid hO4.back3
      have c47 := (HC3.out _ _ HO4.out).2
      have cp := p_passC (HIN2.out _ hd4) (by omega) (HOB.out _ _ HO4.out)
      have HCP := Lib.hid cp
      clear hO4 hd4 hm3 c33 cp
      go_wp2_with fail
      go_at_call 51
      refine (HCP.out).mono ?_
      rintro e w5 ⟨rfl, rd5, hin5, hO5⟩
      have cc := p_count hin5 true (by omega) hO5
      have HCC := Lib.hid cc
      clear hin5 hO5 cc c47
      go_wp2_with fail
      go_at_call 27
      refine (HCC.out).mono ?_
      rintro e w6 ⟨rfl, hst⟩
      go_wp2_with fail
      go_end0
      exact ⟨rfl, by rw [HTC.out]; exact hst⟩
    · have hb0 : inL id P1.b = false := by simpa using hb
      by_cases ha : inL id P1.a = true
      · have hrow : rowI id P1.a P1.b P1.c = 0 := by unfold rowI; rw [ha]; rfl
        rw [hrow] at hof
        obtain ⟨P2, hP2⟩ : ∃ P2 : PSt, { P1 with a := remL id P1.a ++ [(id, wtL id P1.a)] } = P2 := ⟨_, rfl⟩
        have htc : P1.touch id = P2 := by unfold PSt.touch; rw [if_neg hb, if_pos ha, ← hP2]
        have hin2 : ∀ rd', DqAt gd 3 n (st3 (remL id P1.a ++ [(id, wtL id P1.a)]) P1.b P1.c) rd' → PolIn gf gd (k + 1) n P2 rf2 rd' o := fun rd' hd' => by
          rw [← hP2]
          refine ⟨hin.fil, hd', hin.map, hin.inv.rows (fun x => ?_)⟩
          rw [inL_append, inL_one, inL_move ha x]
          rfl
        have hob : ∀ (rd' : Own) (W : World), Owned w0 W (polB g gf gd gm P1 o ++ (rf2 ++ (rd' ++ F))) → Owned w0 W (polB g gf gd gm P2 o ++ (rf2 ++ (rd' ++ F))) := fun rd' W hW => by rw [← hP2]; exact hW
        have hmv := fun (W : World) (hW : Owned w0 W (polB g gf gd gm P1 o ++ (rf2 ++ (rd ++ F)))) => d3_moveAA ha hn6 hd hW.third
        have HTC := Lib.hid htc
        have HIN2 := Lib.hid hin2
        have HOB := Lib.hid hob
        have HMV := Lib.hid hmv
        have HO := Lib.hid hO
        clear hin hd ap hh hrow hP2 htc hin2 hob hmv hc3 hO hb0 hb ha
        go_wp2_with fail
        go_at_call 56
        refine (hof).mono ?_
        rintro e w3 ⟨⟨z, rfl⟩, hb3⟩
        have c33 := (HC3.out _ _ (HO.out.under hb3)).1
        have hm3 := HMV.out _ (HO.out.under hb3)
        clear c3 hof
        go_wp2_with fail
        go_at_call 57
        refine (hm3).mono ?_
        rintro e w4 ⟨⟨z2, rfl⟩, rd4, hd4, hO4⟩
        have HO4 := Lib.hid hO4.back3
        have cc := p_count (HIN2.out _ hd4) true (by omega) (HOB.out _ _ HO4.out)
        have HCC := Lib.hid cc
        clear hO4 hd4 hm3 c33 cc
        go_wp2_with fail
        go_at_call 27
        refine (HCC.out).mono ?_
        rintro e w6 ⟨rfl, hst⟩
        go_wp2_with fail
        go_end0
        exact ⟨rfl, by rw [HTC.out]; exact hst⟩
      · have ha0 : inL id P1.a = false := by simpa using ha
        have hc : inL id P1.c = true := by rw [ha0, hb0] at hh; simpa using hh
        have hrow : rowI id P1.a P1.b P1.c = 2 := by unfold rowI; rw [ha0, hb0, hc]; rfl
        rw [hrow] at hof
        obtain ⟨P2, hP2⟩ : ∃ P2 : PSt, { P1 with c := remL id P1.c ++ [(id, wtL id P1.c)] } = P2 := ⟨_, rfl⟩
        have htc : P1.touch id = P2 := by unfold PSt.touch; rw [if_neg hb, if_neg ha, ← hP2]
        have hin2 : ∀ rd', DqAt gd 3 n (st3 P1.a P1.b (remL id P1.c ++ [(id, wtL id P1.c)])) rd' → PolIn gf gd (k + 1) n P2 rf2 rd' o := fun rd' hd' => by
          rw [← hP2]
          refine ⟨hin.fil, hd', hin.map, hin.inv.rows (fun x => ?_)⟩
          rw [inL_append, inL_one, inL_move hc x]
          rfl
        have hob : ∀ (rd' : Own) (W : World), Owned w0 W (polB g gf gd gm P1 o ++ (rf2 ++ (rd' ++ F))) → Owned w0 W (polB g gf gd gm P2 o ++ (rf2 ++ (rd' ++ F))) := fun rd' W hW => by rw [← hP2]; exact hW
        have hmv := fun (W : World) (hW : Owned w0 W (polB g gf gd gm P1 o ++ (rf2 ++ (rd ++ F)))) => d3_moveCC hc hn6 hd hW.third
        have HTC := Lib.hid htc
        have HIN2 := Lib.hid hin2
        have HOB := Lib.hid hob
        have HMV := Lib.hid hmv
        have HO := Lib.hid hO
        clear hin hd ap hh hrow hP2 htc hin2 hob hmv hc3 hO hb0 hb ha ha0 hc
        go_wp2_with fail
        go_at_call 56
        refine (hof).mono ?_
        rintro e w3 ⟨⟨z, rfl⟩, hb3⟩
        have c33 := (HC3.out _ _ (HO.out.under hb3)).1
        have hm3 := HMV.out _ (HO.out.under hb3)
        clear c3 hof
        go_wp2_with fail
        go_at_call 57
        refine (hm3).mono ?_
        rintro e w4 ⟨⟨z2, rfl⟩, rd4, hd4, hO4⟩
        have HO4 := Lib.hid hO4.back3
        have cc := p_count (HIN2.out _ hd4) true (by omega) (HOB.out _ _ HO4.out)
        have HCC := Lib.hid cc
        clear hO4 hd4 hm3 c33 cc
        go_wp2_with fail
        go_at_call 27
        refine (HCC.out).mono ?_
        rintro e w6 ⟨rfl, hst⟩
        go_wp2_with fail
        go_end0
        exact ⟨rfl, by rw [HTC.out]; exact hst⟩
end
end Go.Proofs.Ytnhdjpeadhcajaa
