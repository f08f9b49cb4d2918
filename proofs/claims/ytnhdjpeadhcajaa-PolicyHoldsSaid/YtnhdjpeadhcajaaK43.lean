/- Merged texts: Layer 11: an event is done: a node is added. -/
import Derived.Test.YtnhdjpeadhcajaaK42
import Derived.Test.YtnhdjpeadhcajaaK39
namespace Go.Proofs.Ytnhdjpeadhcajaa
open Go.RowKit Go.Sep DqPure
set_option maxRecDepth 100000
theorem count_ks (P : PSt) (hit : Bool) : (P.count hit).ks = P.ks := by
  unfold PSt.count
  split <;> rfl
theorem has_count (P : PSt) (hit : Bool) (x : Int) : (P.count hit).has x = P.has x := by
  unfold PSt.count
  split
  · rw [has_passC]
    rfl
  · rfl
section
variable {g gf gd gm k n : Nat} {P : PSt} {rf rd r F : Own} {o : Obj} {w0 w : World} {d nd key wt : Int}
theorem PolIn.added {Q : PSt} (h : PolIn gf gd k n Q rf rd o) (nd key wt : Int) {rd' : Own} {o' : Obj} (hd : DqAt gd 3 (n + 1) (st3 (Q.a ++ [(nd, wt)]) Q.b Q.c) rd') (hm : KMap (k + 1) (updK Q.ks nd (some key)) o') :
    PolIn gf gd (k + 1) (n + 1) { Q with a := Q.a ++ [(nd, wt)], ks := updK Q.ks nd (some key) } rf rd' o' := by
  refine ⟨h.fil, hd, hm, h.inv.cap, h.inv.per, h.inv.qw, Nat.le_succ_of_le h.inv.age, Nat.succ_le_succ h.inv.n, fun x hx => ?_⟩
  show (updK Q.ks nd (some key) x).isSome = (inL x (Q.a ++ [(nd, wt)]) || (inL x Q.b || inL x Q.c))
  rw [inL_append, inL_one]
  by_cases e : x = nd
  · subst e
    rw [updK_same, decide_eq_true rfl]
    simp
  · rw [updK_ne _ _ e, h.inv.ks x hx, decide_eq_false (fun h => e h.symm), Bool.or_false]
    rfl
set_option maxHeartbeats 6400000 in
theorem p_do_add (h : PolIn gf gd k n P rf rd o) (hk : k ≤ 999990) (hnd : 1 ≤ nd ∧ nd ≤ 65536 ∧ 0 ≤ wt ∧ wt ≤ 2147483648) (hkey : wfk key) (hm : P.may 1 nd wt = 0) (hh : P.has nd = false) (hO : Owned w0 w (polB g gf gd gm P o ++ (rf ++ (rd ++ F)))) :
    Calls Try.prog 12 #[.pointer (some ⟨g, 0, none⟩), .agg #[.int .i64 1, .int .i64 nd, .int .i64 key, .int .i64 wt]] w fun e w' => ∃ v rq, e = .returned (.tuple #[v, .int .i64 0]) ∧ Row 3 1 v (P.add nd key wt).settle.2.length (ints (P.add nd key wt).settle.2) rq ∧ Stands w0 (rq ++ F) g (k + 2) (P.add nd key wt).settle.1 w' ∧ (P.add nd key wt).settle.2.length ≤ 3 * (k + 2) := by
  have hwf := wfk_id ⟨hnd.1, hnd.2.1⟩
  have hO1 := ev_alloc (d := 1) (nd := nd) (key := key) (wt := wt) hO
  obtain ⟨e0, e1, e2, e3⟩ := ev_in hO1
  have cm := p_may h 1 nd key wt hwf hO1
  rw [hm] at cm
  unfold evC at cm
  have HO1 := Lib.hid hO1
  have CM := Lib.hid cm
  have hrec := fun (W : World) (hW : Owned w0 W (polB g gf gd gm P o ++ (rf ++ (rd ++ (evB w.heap.size 1 nd key wt :: F))))) => f_record key rfl (show P.fl.A ≤ 1000000 by have := h.inv.age; omega) h.fil hW.comm
  have hin := fun (rf' : Own) (hf : FilterAt gf P.sd P.wd (P.fl.next P.sd P.wd key) rf') => h.recorded key hf
  obtain ⟨Q, hQ⟩ : ∃ Q, (P.record key).count false = Q := ⟨_, rfl⟩
  have hQh : Q.has nd = false := by rw [← hQ, has_count]; exact hh
  have hQk : Q.ks = P.ks := by rw [← hQ, count_ks]; rfl
  have hadd : P.add nd key wt = { Q with a := Q.a ++ [(nd, wt)], ks := updK Q.ks nd (some key) } := by rw [hQk, ← hQ]; rfl
  have hcount := fun (rf' : Own) (hf : FilterAt gf P.sd P.wd (P.fl.next P.sd P.wd key) rf') (W : World) (hW : Owned w0 W (polB g gf gd gm P o ++ (rf' ++ (rd ++ (evB w.heap.size 1 nd key wt :: F))))) => p_count (P := P.record key) (h.recorded key hf) false (by omega) hW
  rw [hQ] at hcount
  rw [hadd]
  have HREC := Lib.hid hrec
  have HIN := Lib.hid hin
  have HCNT := Lib.hid hcount
  have HQH := Lib.hid hQh
  have HND := Lib.hid hnd
  have HWF := Lib.hid hwf
  have HKEY := Lib.hid hkey
  clear h hO hO1 cm hm hrec hin hcount hQ hQh hQk hadd hh hnd hwf hkey
  go_enter Try.func12, Try.ntmps12
  go_wp2_with fail
  go_at_call 25
  refine (CM.out).mono ?_
  rintro e w1 ⟨rfl, hb⟩
  have HO2 := Lib.hid (HO1.out.under hb)
  obtain ⟨f0, f1, f2, f3⟩ := ev_in HO2.out
  have c2 := (polB_cell HO2.out 2).trans (show (polC gf gd gm P)[2]? = some (.pointer (some ⟨gf, 0, none⟩)) from rfl)
  clear e0 e1 e2 e3
  go_wp2_with fail
  go_still_tail 6, (by kernel_rfl)
  go_wp2_with fail
  go_at_call 26
  refine (HREC.out _ HO2.out.drew).mono ?_
  rintro e w2 ⟨rfl, rf2, hf2, hO2⟩
  have cc := HCNT.out _ hf2 _ hO2.comm
  have HCC := Lib.hid cc
  clear c2 f0 f1 f2 f3 hf2 hO2 cc
  go_wp2_with fail
  go_at_call 27
  refine (HCC.out).mono ?_
  rintro e w3 ⟨rfl, hst⟩
  obtain ⟨g0, g1, g2, g3⟩ := hst.ev
  obtain ⟨gf', gd', gm', rf', rd', o', n', hin, hO⟩ := hst.open_
  have c3 := (polB_cell hO 3).trans (show (polC gf' gd' gm' Q)[3]? = some (.pointer (some ⟨gd', 0, none⟩)) from rfl)
  have hQH := HQH.out
  unfold PSt.has at hQH
  rw [Bool.or_eq_false_iff, Bool.or_eq_false_iff] at hQH
  have hpush := fun (W : World) (hW : Owned w0 W (polB g gf' gd' gm' Q o' ++ (rf' ++ (rd' ++ (evB w.heap.size 1 nd key wt :: F))))) => d3_push HND.out ⟨hQH.1, hQH.2.1, hQH.2.2⟩ (show n' ≤ 1000000 by have := hin.inv.n; omega) (show DqAt gd' 3 n' (st3 Q.a Q.b Q.c) rd' from hin.dq) hW.third
  have HPUSH := Lib.hid hpush
  have HINQ := Lib.hid hin
  have HOQ := Lib.hid hO
  clear hst hin hO hQH hpush
  go_wp2_with fail
  go_still_tail 8, (by kernel_rfl)
  go_wp2_with fail
  go_at_call 28
  refine (HPUSH.out _ HOQ.out.drew).mono ?_
  rintro e w4 ⟨⟨zz, rfl⟩, rd4, hd4, hO4⟩
  have HO4 := Lib.hid hO4.back3
  have HD4 := Lib.hid hd4
  clear g0 g1 g2 g3 c3 hO4 hd4
  go_wp2_with fail
  first
    | (have HO5 := HO4; change Code.wp Try.prog _ _ _ w4; generalize w4 = w6 at *)
    | (have HO5 := Lib.hid HO4.out.drew; change Code.wp Try.prog _ _ _ w4.drew; generalize w4.drew = w6 at *)
  obtain ⟨e0, e1, e2, e3⟩ := ev_in HO5.out
  have c4 := (polB_cell HO5.out 4).trans (show (polC gf' gd' gm' Q)[4]? = some (.map (some gm')) from rfl)
  have HLK := Lib.hid ((polB_look (g := g) (gf := gf') (gd := gd') (gm := gm') (P := Q) (o := o')).resolve_right (polB_ne HO5.out))
  have HSB := Lib.hid (polB_setmap HO5.out)
  have HMX := Lib.hid (show k + 1 < maxLen by unfold maxLen; omega)
  clear HO4
  go_still_tail 8, (by kernel_rfl)
  go_wp2_with (at_mapUpdate; refine wpk_put rfl _ _ _ rfl rfl rfl rfl HINQ.out.map HO5.out.drew HLK.out HMX.out HWF.out HKEY.out ?_; intro w7 o7 hM7 hO7; have HM7 := Lib.hid hM7; have HO7 := Lib.hid hO7; clear hM7 hO7)
  have hO7 := HO7.out
  rw [HSB.out] at hO7
  have hin8 := HINQ.out.added nd key wt HD4.out HM7.out
  have cs := p_settle (P := { Q with a := Q.a ++ [(nd, wt)], ks := updK Q.ks nd (some key) }) hin8 (by omega) hO7
  have CS := Lib.hid cs
  have HLN := Lib.hid (Nat.le_trans (settle_len _) hin8.len)
  clear hO7 hin8 cs e0 e1 e2 e3 c4
  go_wp2_with fail
  go_at_call 29
  refine (CS.out).mono ?_
  rintro e w8 ⟨v, rq, rfl, hrow, hst⟩
  have HROW := Lib.hid hrow
  have HST := Lib.hid hst.less2
  clear hrow hst
  go_wp2_with fail
  refine bodyPost_ret (results_tmp2 rfl _ _ _) rfl ?_
  exact ⟨_, rq, rfl, HROW.out, HST.out, HLN.out⟩
set_option maxHeartbeats 6400000 in
theorem p_do_update (h : PolIn gf gd k n P rf rd o) (hk : k ≤ 999990) (hwt : 0 ≤ wt ∧ wt ≤ 2147483648) (hm : P.may 3 nd wt = 0) (hh : P.has nd = true) (hO : Owned w0 w (polB g gf gd gm P o ++ (rf ++ (rd ++ F)))) :
    Calls Try.prog 12 #[.pointer (some ⟨g, 0, none⟩), .agg #[.int .i64 3, .int .i64 nd, .int .i64 key, .int .i64 wt]] w fun e w' => ∃ v rq, e = .returned (.tuple #[v, .int .i64 0]) ∧ Row 3 1 v ((P.reweigh nd wt).read nd).settle.2.length (ints ((P.reweigh nd wt).read nd).settle.2) rq ∧ Stands w0 (rq ++ F) g (k + 2) ((P.reweigh nd wt).read nd).settle.1 w' ∧ ((P.reweigh nd wt).read nd).settle.2.length ≤ 3 * (k + 2) := by
  have hwf := wfk_id (h.wf nd hh)
  have hO1 := ev_alloc (d := 3) (nd := nd) (key := key) (wt := wt) hO
  obtain ⟨e0, e1, e2, e3⟩ := ev_in hO1
  have cm := p_may h 3 nd key wt hwf hO1
  rw [hm] at cm
  unfold evC at cm
  have HO1 := Lib.hid hO1
  have CM := Lib.hid cm
  obtain ⟨Q, hQ⟩ : ∃ Q, P.reweigh nd wt = Q := ⟨_, rfl⟩
  have hrw := fun (W : World) (hW : Owned w0 W (polB g gf gd gm P o ++ (rf ++ (rd ++ (evB w.heap.size 3 nd key wt :: F))))) => d3_reweigh hwf hwt (show n ≤ 1000000 by have := h.inv.n; omega) (show DqAt gd 3 n (st3 P.a P.b P.c) rd from h.dq) hW.third
  have hset : ∀ x (l : List (Int × Int)), inL x (setL nd wt l) = inL x l := fun x l => by
    rw [Bool.eq_iff_iff, in_iff, in_iff]
    constructor
    · rintro ⟨p, hp, e⟩
      obtain ⟨q, hq, rfl⟩ := List.mem_map.1 hp
      refine ⟨q, hq, ?_⟩
      split at e
      · rename_i h2; rw [h2]; exact e
      · exact e
    · rintro ⟨p, hp, e⟩
      refine ⟨_, List.mem_map.2 ⟨p, hp, rfl⟩, ?_⟩
      split
      · rename_i h2; rw [← h2]; exact e
      · exact e
  have hasQ : ∀ x, Q.has x = P.has x := fun x => by
    rw [← hQ]
    show (inL x (setL nd wt P.a) || (inL x (setL nd wt P.b) || inL x (setL nd wt P.c))) = _
    rw [hset, hset, hset]
    rfl
  have hin : ∀ rd', DqAt gd 3 n (st3 (setL nd wt P.a) (setL nd wt P.b) (setL nd wt P.c)) rd' → PolIn gf gd k n Q rf rd' o := fun rd' hd' => by
    have hhq := hasQ
    rw [← hQ] at hhq ⊢
    exact ⟨h.fil, hd', h.map, h.inv.cap, h.inv.per, h.inv.qw, h.inv.age, h.inv.n, fun x hx => (h.inv.ks x hx).trans (hhq x).symm⟩
  have hob : ∀ (rd' G : Own) (W : World), Owned w0 W (polB g gf gd gm P o ++ (rf ++ (rd' ++ G))) → Owned w0 W (polB g gf gd gm Q o ++ (rf ++ (rd' ++ G))) := fun rd' G W hW => by rw [← hQ]; exact hW
  have HRW := Lib.hid hrw
  have HIN := Lib.hid hin
  have HOB := Lib.hid hob
  have HHQ := Lib.hid ((hasQ nd).trans hh)
  rw [hQ]
  clear hO hO1 cm hm hrw hset hasQ hin hob hQ h hh hwt
  go_enter Try.func12, Try.ntmps12
  go_wp2_with fail
  go_at_call 25
  refine (CM.out).mono ?_
  rintro e w1 ⟨rfl, hb⟩
  have HO2 := Lib.hid (HO1.out.under hb)
  obtain ⟨f0, f1, f2, f3⟩ := ev_in HO2.out
  have c3 := (polB_cell HO2.out 3).trans (show (polC gf gd gm P)[3]? = some (.pointer (some ⟨gd, 0, none⟩)) from rfl)
  clear e0 e1 e2 e3
  go_wp2_with fail
  go_still_tail 8, (by kernel_rfl)
  go_wp2_with fail
  go_at_call 30
  refine (HRW.out _ HO2.out.drew).mono ?_
  rintro e w2 ⟨⟨zz, rfl⟩, rd2, hd2, hO2⟩
  have hO3 := hO2.back3
  have HIN2 := Lib.hid (HIN.out _ hd2)
  have HOQ := Lib.hid (HOB.out _ _ _ hO3)
  obtain ⟨g0, g1, g2, g3⟩ := ev_in hO3
  have hrd := p_read HIN2.out nd HHQ.out (by omega) HOQ.out
  have HRD := Lib.hid hrd
  clear f0 f1 f2 f3 c3 hd2 hO2 hO3 hrd
  go_wp2_with fail
  go_at_call 31
  refine (HRD.out).mono ?_
  rintro e w3 ⟨rfl, hst⟩
  obtain ⟨k0, k1, k2, k3⟩ := hst.ev
  obtain ⟨gf', gd', gm', rf', rd', o', n', hin, hO⟩ := hst.open_
  have cs := p_settle hin.up (by omega) hO
  have CS := Lib.hid cs
  have HLN := Lib.hid (Nat.le_trans (settle_len _) hin.up.len)
  clear hst hin hO cs g0 g1 g2 g3
  go_wp2_with fail
  go_at_call 29
  refine (CS.out).mono ?_
  rintro e w8 ⟨v, rq, rfl, hrow, hst⟩
  have HROW := Lib.hid hrow
  have HST := Lib.hid hst.less2
  clear hrow hst
  go_wp2_with fail
  refine bodyPost_ret (results_tmp2 rfl _ _ _) rfl ?_
  exact ⟨_, rq, rfl, HROW.out, HST.out, HLN.out⟩
/-- an event is done -/
theorem p_do (h : PolIn gf gd k n P rf rd o) (hk : k ≤ 999990) (d nd key wt : Int) (hnd : wfk nd) (hkey : wfk key) (hO : Owned w0 w (polB g gf gd gm P o ++ (rf ++ (rd ++ F)))) :
    Calls Try.prog 12 #[.pointer (some ⟨g, 0, none⟩), .agg #[.int .i64 d, .int .i64 nd, .int .i64 key, .int .i64 wt]] w fun e w' => ∃ v rq, e = .returned (.tuple #[v, .int .i64 (P.act d nd key wt).2.2]) ∧ Row 3 1 v (P.act d nd key wt).2.1.length (ints (P.act d nd key wt).2.1) rq ∧ Stands w0 (rq ++ F) g (k + 2) (P.act d nd key wt).1 w' ∧ (P.act d nd key wt).2.1.length ≤ 3 * (k + 2) := by
  unfold PSt.act
  have up : ∀ {P' : PSt} {W : World}, Stands w0 F g (k + 1) P' W → Stands w0 ([] ++ F) g (k + 2) P' W := fun hs => by
    obtain ⟨_, _, _, _, _, _, _, hin, hO⟩ := hs.open_
    exact hin.up.shut hO
  by_cases hm : P.may d nd wt ≠ 0
  · rw [if_pos hm]
    refine (p_do_bad h hnd rfl hm hO).mono ?_
    rintro e w' ⟨rfl, hs⟩
    exact ⟨_, [], rfl, Row.nil _ _, up hs, Nat.zero_le _⟩
  · rw [if_neg hm]
    have hm0 : P.may d nd wt = 0 := by omega
    have hmm := hm0
    unfold PSt.may at hmm
    have h1 : ¬ (d < 1 ∨ 4 < d) := fun h1 => by rw [if_pos h1] at hmm; omega
    rw [if_neg h1] at hmm
    have h2 : ¬ (d = 1 ∧ (nd < 1 ∨ 65536 < nd)) := fun h1 => by rw [if_pos h1] at hmm; omega
    rw [if_neg h2] at hmm
    have h3 : ¬ (d ≠ 1 ∧ (P.ks nd).isSome = false) := fun h1 => by rw [if_pos h1] at hmm; omega
    rw [if_neg h3] at hmm
    rw [h.inv.ks nd hnd] at h3 hmm
    have hh : d ≠ 1 → P.has nd = true := fun h1 => by
      cases hq : P.has nd with
      | true => rfl
      | false => exact absurd ⟨h1, hq⟩ h3
    have hv : d ≠ 2 → d ≠ 4 → heavyN P.cap wt = 0 := fun a b => by
      rw [if_neg (by omega)] at hmm
      exact Classical.byContradiction (fun hc => by rw [if_pos hc] at hmm; exact hc hmm)
    have hw : heavyN P.cap wt = 0 → 0 ≤ wt ∧ wt ≤ 2147483648 := fun hz => by
      unfold heavyN at hz
      by_cases q1 : wt < 0
      · rw [if_pos q1] at hz; omega
      · rw [if_neg q1] at hz
        by_cases q2 : 2147483648 < wt ∨ P.cap < wt
        · rw [if_pos q2] at hz; omega
        · omega
    by_cases e1 : d = 1
    · subst e1
      rw [if_pos rfl]
      have hz := hv (by omega) (by omega)
      have hno : P.has nd = false := by
        rw [if_neg (by omega), if_neg (by omega)] at hmm
        cases hq : P.has nd with
        | false => rfl
        | true => rw [if_pos ⟨rfl, hq⟩] at hmm; omega
      refine (p_do_add h hk ⟨by omega, by omega, hw hz⟩ hkey hm0 hno hO).mono ?_
      rintro e w' ⟨v, rq, rfl, h1, h2, h9⟩
      exact ⟨v, rq, rfl, h1, h2, h9⟩
    · rw [if_neg e1]
      by_cases e3 : d = 3
      · subst e3
        rw [if_pos rfl]
        refine (p_do_update h hk (hw (hv (by omega) (by omega))) hm0 (hh (by omega)) hO).mono ?_
        rintro e w' ⟨v, rq, rfl, h1, h2, h9⟩
        exact ⟨v, rq, rfl, h1, h2, h9⟩
      · rw [if_neg e3]
        by_cases e2 : d = 2
        · subst e2
          rw [if_pos rfl]
          refine (p_do_read h (by omega) hnd hm0 (hh (by omega)) hO).mono ?_
          rintro e w' ⟨rfl, hs⟩
          exact ⟨_, [], rfl, Row.nil _ _, up hs, Nat.zero_le _⟩
        · rw [if_neg e2]
          obtain rfl : d = 4 := by omega
          refine (p_do_remove h (by omega) hnd hm0 hO).mono ?_
          rintro e w' ⟨rfl, hs⟩
          exact ⟨_, [], rfl, Row.nil _ _, up hs, Nat.zero_le _⟩
end
end Go.Proofs.Ytnhdjpeadhcajaa
