/- Merged texts: Layer 11: who has to go, until all weigh as little as they may. -/
import Derived.Test.YtnhdjpeadhcajaaK37
import Derived.Test.YtnhdjpeadhcajaaK25
import Derived.Deep.CutBlock
namespace Go.Proofs.Ytnhdjpeadhcajaa
open Go.RowKit Go.Sep DqPure
set_option maxRecDepth 100000
theorem rem_len (id : Int) (l : List (Int × Int)) : (remL id l).length ≤ l.length ∧ (inL id l = true → (remL id l).length < l.length) := by
  refine ⟨List.length_filter_le _ _, fun h => ?_⟩
  obtain ⟨p, hp, e⟩ := in_iff.1 h
  exact List.length_filter_lt_length_iff_exists.2 ⟨p, hp, by simpa using e⟩
theorem drop_len {P : PSt} {id : Int} (h : P.has id = true) : (P.drop id).len < P.len := by
  have ha := rem_len id P.a
  have hb := rem_len id P.b
  have hc := rem_len id P.c
  show (remL id P.a).length + (remL id P.b).length + (remL id P.c).length < P.a.length + P.b.length + P.c.length
  unfold PSt.has at h
  rw [Bool.or_eq_true, Bool.or_eq_true] at h
  rcases h with h | h | h
  · have := ha.2 h; omega
  · have := hb.2 h; omega
  · have := hc.2 h; omega
theorem pass_len (m : Int) : ∀ a p : List (Int × Int), (passL m a p).1.length + (passL m a p).2.length = a.length + p.length
  | [], p => rfl
  | x :: t, p => by
    rw [passL]
    split
    · rw [pass_len m t (p ++ [x]), List.length_append, List.length_cons]
      simp
      omega
    · rfl
theorem settleN_len : ∀ (q : Nat) (P : PSt), (PSt.settleN q P).2.length ≤ q
  | 0, _ => Nat.le_refl _
  | q + 1, P => by
    rw [PSt.settleN]
    split
    · exact Nat.succ_le_succ (settleN_len q _)
    · exact Nat.zero_le _
theorem settle_len (P : PSt) : P.settle.2.length ≤ P.len := settleN_len _ _
theorem passA_len (P : PSt) : P.passA.len = P.len := by
  have := pass_len P.qw P.a P.b
  show (passL P.qw P.a P.b).1.length + (passL P.qw P.a P.b).2.length + P.c.length = P.a.length + P.b.length + P.c.length
  omega
section
variable {g gf gd gm k n : Nat} {P : PSt} {rf rd r F : Own} {o : Obj} {w0 w : World}
theorem PolIn.len (h : PolIn gf gd k n P rf rd o) : P.len ≤ 3 * k := by
  have h0 : P.a.length ≤ n := h.dq.len (k := 0) (by omega)
  have h1 : P.b.length ≤ n := h.dq.len (k := 1) (by omega)
  have h2 : P.c.length ≤ n := h.dq.len (k := 2) (by omega)
  have := h.inv.n
  show P.a.length + P.b.length + P.c.length ≤ _
  omega
/-- who goes next is there -/
theorem PolIn.next_has (h : PolIn gf gd k n P rf rd o) (hw : P.cap < P.wt) : P.has P.next = true := by
  have h0 := h.inv.cap
  have hb : P.b ≠ [] → headI P.b ≠ 0 := by
    intro hne
    cases hl : P.b with
    | nil => exact absurd hl hne
    | cons p l =>
      have := (h.dq.fine (k := 1) (by omega) (show p ∈ P.st 1 from by show p ∈ P.b; rw [hl]; exact List.mem_cons_self)).1
      show p.1 ≠ 0
      omega
  have hd : ∀ l : List (Int × Int), l ≠ [] → inL (headI l) l = true := by
    intro l hl
    cases l with
    | nil => exact absurd rfl hl
    | cons p l => exact in_iff.2 ⟨p, List.mem_cons_self, rfl⟩
  unfold PSt.next PSt.has
  by_cases hv : headI P.b = 0
  · rw [if_pos hv]
    have hbn : P.b = [] := Classical.byContradiction (fun hne => hb hne hv)
    by_cases hc : 0 < P.c.length
    · rw [if_pos hc, hd P.c (fun e => by rw [e] at hc; exact absurd hc (by decide))]
      simp
    · rw [if_neg hc]
      have hcn : P.c = [] := List.eq_nil_of_length_eq_zero (by omega)
      have han : P.a ≠ [] := fun e => by
        have : P.wt = 0 := by unfold PSt.wt; rw [e, hbn, hcn]; rfl
        omega
      rw [hd P.a han]
      rfl
  · rw [if_neg hv]
    obtain ⟨e1, e2⟩ := ends_mem P.b hv
    split
    · rw [e1]; simp
    · rw [e2]; simp
theorem Stands.open_ {P : PSt} {w : World} (h : Stands w0 F g k P w) : ∃ gf gd gm rf rd o n, PolIn gf gd k n P rf rd o ∧ Owned w0 w (polB g gf gd gm P o ++ (rf ++ (rd ++ F))) := by
  obtain ⟨r, hr, hO⟩ := h
  obtain ⟨gf, gd, gm, rf, rd, o, n, -, h1, h2⟩ := hr.open_ hO
  exact ⟨gf, gd, gm, rf, rd, o, n, h1, h2⟩
theorem Stands.frame {w' : World} {q q' : Own} (h : Stands w0 (q ++ F) g k P w) (hh : ∀ r : Own, Owned w0 w (q ++ (r ++ F)) → Owned w0 w' (q' ++ (r ++ F))) : Stands w0 (q' ++ F) g k P w' := by
  obtain ⟨r, hr, hO⟩ := h
  exact ⟨r, hr, (hh r hO.comm).comm⟩
theorem info_int8 : (Try.prog.info? 3).map (fun i => (i.zero, i.size, i.bytes)) = some (some (.int .i64 0), 1, 8) := by kernel_rfl
set_option maxHeartbeats 6400000 in
theorem p_settle (h : PolIn gf gd k n P rf rd o) (hk : k ≤ 1000000) (hO : Owned w0 w (polB g gf gd gm P o ++ (rf ++ (rd ++ F)))) :
    Calls Try.prog 29 #[.pointer (some ⟨g, 0, none⟩)] w fun e w' => ∃ v rq, e = .returned v ∧ Row 3 1 v P.settle.2.length (ints P.settle.2) rq ∧ Stands w0 (rq ++ F) g k P.settle.1 w' := by
  have c6 := (polB_cell hO 6).trans (show (polC gf gd gm P)[6]? = some (.int .i64 P.qw) from rfl)
  have cpa := p_passA h hk hO
  have hlen := h.len
  rw [← passA_len] at hlen
  obtain ⟨N, hN⟩ : ∃ N, P.passA.len = N := ⟨_, rfl⟩
  have hsN : P.settle = PSt.settleN N P.passA := by unfold PSt.settle; rw [← passA_len, hN]
  rw [hN] at hlen
  rw [hsN]
  have CPA := Lib.hid cpa
  have HNN := Lib.hid (Nat.le_of_eq hN)
  clear h hO cpa hN hsN
  obtain ⟨S1, L1, hS⟩ : ∃ S1 L1, PSt.settleN N P.passA = (S1, L1) := ⟨_, _, rfl⟩
  rw [hS]
  have HS := Lib.hid hS
  clear hS
  go_enter Try.func29, Try.ntmps29
  go_wp2_with fail
  go_at_call 51
  refine (CPA.out).mono ?_
  rintro e w1 ⟨rfl, rd1, hin1, hO1⟩
  have hst : Stands w0 ([] ++ F) g k P.passA w1 := hin1.shut hO1
  have HST := Lib.hid hst
  clear hst hin1 hO1 c6 CPA
  generalize P.passA = P1 at *
  go_wp2_with fail
  go_loopg [3] N (fun q x wr => ∃ P' L rq, Hid ((PSt.settleN q P').1 = S1 ∧ L ++ (PSt.settleN q P').2 = L1) ∧ P'.len ≤ q ∧ L.length + q = N ∧ Hid (Row 3 1 x L.length (ints L) rq) ∧ Hid (Stands w0 (rq ++ F) g k P' wr))
  case atStart => exact ⟨P1, [], [], Lib.hid ⟨by rw [HS.out], by rw [HS.out]; rfl⟩, HNN.out, by simp, Lib.hid (Row.nil _ _), HST⟩
  case round =>
    obtain ⟨P', L, rq, hs, hlq, hLq, hrow, hst⟩ := hrel
    obtain ⟨gf', gd', gm', rf', rd', o', n', hin, hO⟩ := hst.out.open_
    have c0q := cell_regrown ((polB_cell hO 0).trans (show (polC gf' gd' gm' P')[0]? = some (.int .i64 P'.cap) from rfl))
    have cw := fun d os => p_weight hin hk (hO.under (below_regrown wr d os))
    have HIN := Lib.hid hin
    have HO := Lib.hid hO
    have HROW := Lib.hid hrow.out
    have hnh := hin.next_has
    have hcp := hin.inv.cap
    clear hin hO hst hrow
    by_cases hlt : P'.cap < P'.wt
    · cases gk with
      | zero =>
        exfalso
        have := drop_len (hnh hlt)
        omega
      | succ q =>
        have hdl := drop_len (hnh hlt)
        have hwf := wfk_id (HIN.out.wf _ (hnh hlt))
        have e : PSt.settleN (q + 1) P' = ((PSt.settleN q (P'.drop P'.next)).1, P'.next :: (PSt.settleN q (P'.drop P'.next)).2) := by rw [PSt.settleN, if_pos hlt]
        have hs2 := hs.out
        rw [e] at hs2
        have HSS := Lib.hid hs2
        have HWF := Lib.hid hwf
        have hdr := fun (W : World) (hW : Owned w0 W (polB g gf' gd' gm' P' o' ++ (rf' ++ (rd' ++ (rq ++ F))))) => p_drop HIN.out P'.next HWF.out hk hW
        have hnx := fun (W : World) (hW : Owned w0 W (polB g gf' gd' gm' P' o' ++ (rf' ++ (rd' ++ (rq ++ F))))) => p_next HIN.out hW
        have HDR := Lib.hid hdr
        have HNX := Lib.hid hnx
        clear hs hs2 hwf e hnh hdr hnx HS
        have hdl2 : (P'.drop P'.next).len ≤ q := by omega
        clear hdl
        generalize P'.drop P'.next = P2 at *
        generalize P'.next = id at *
        generalize P'.wt = wt at *
        generalize P'.cap = cap at *
        have d1 : decide (cap < wt) = true := by simp; exact hlt
        go_wp2_with fail
        refine wp_region_quiet_below (by kernel_rfl) (by kernel_rfl) ?_
        repeat (first | go_big_quiet_step ((first | (go_at_call 14; with_reducible exact Calls.regrown_of (cw _ _)))) | quiet_step ((first | (go_at_call 14; with_reducible exact Calls.regrown_of (cw _ _)))))
        refine wpQuiet_nil ?_
        intro _ hw'
        obtain ⟨⟨dq, osq⟩, hw''⟩ := hw'
        subst hw''
        have HO2 := Lib.hid (HO.out.under (below_regrown wr dq osq))
        generalize (Go.Sort.grow (redrawn wr dq) osq) = w2 at *
        have cn := HNX.out _ HO2.out
        clear c0q cw HO
        go_wp2_with fail
        go_at_call 55
        refine (cn).mono ?_
        rintro e w3 ⟨rfl, hO3⟩
        have cd := HDR.out _ hO3
        clear hO3 cn
        go_wp2_with fail
        go_at_call 32
        refine (cd).mono ?_
        rintro e w4 ⟨rfl, hst4⟩
        clear cd
        obtain ⟨r4, hr4, hO4⟩ := hst4
        have hO5 := hO4.comm
        have HR4 := Lib.hid hr4
        have hrow := HROW.out
        obtain ⟨j, hj⟩ : ∃ j, L.length = j := ⟨_, rfl⟩
        rw [hj] at hrow hLq
        have hm1 : j + 1 ≤ maxLen := by unfold maxLen; omega
        have hm2 : (j + 1) * 8 ≤ 140737488355328 := by omega
        have HX := Lib.hid (show (L ++ [id]).length = j + 1 by rw [List.length_append, hj]; rfl)
        have HI := Lib.hid (ints_snoc L id)
        clear hr4 hO4 HROW hj
        go_wp2_with (at_builtin; refine append_one rfl (.tmp 24) (.tmp 26) 26 rfl 3 (.int .i64 0) 8 Try.underlying26 info_int8 rfl _ j _ rq _ _ rfl hrow hO5 rfl rfl hm1 hm2 ?_; intro v5 rq5 w5 hrow5 hO5; have HROW5 := Lib.hid hrow5; have HO5 := Lib.hid hO5; clear hrow5 hO5)
        go_roundg q
        case measure => omega
        case rel =>
          refine ⟨P2, L ++ [id], rq5, Lib.hid ⟨HSS.out.1, by rw [List.append_assoc]; exact HSS.out.2⟩, hdl2, by rw [HX.out]; omega, Lib.hid ?_, Lib.hid ⟨r4, HR4.out, HO5.out.comm⟩⟩
          rw [HX.out, HI.out]
          exact HROW5.out
    · have e : PSt.settleN gk P' = (P', []) := by
        cases gk with
        | zero => rfl
        | succ q => rw [PSt.settleN, if_neg hlt]
      have hs2 := hs.out
      rw [e] at hs2
      have HSS := Lib.hid hs2
      clear hs hs2 e hnh HS
      generalize hwt : P'.wt = wt at *
      generalize hcap : P'.cap = cap at *
      have d1 : decide (cap < wt) = false := by simp; omega
      have HSH := Lib.hid (fun (W : World) (hW : Owned w0 W (polB g gf' gd' gm' P' o' ++ (rf' ++ (rd' ++ (rq ++ F))))) => HIN.out.shut hW)
      clear hwt hcap
      go_wp2_with fail
      refine wp_region_quiet_below (by kernel_rfl) (by kernel_rfl) ?_
      repeat (first | go_big_quiet_step ((first | (go_at_call 14; with_reducible exact Calls.regrown_of (cw _ _)))) | quiet_step ((first | (go_at_call 14; with_reducible exact Calls.regrown_of (cw _ _)))))
      refine wpQuiet_nil ?_
      intro _ hw'
      obtain ⟨⟨dq, osq⟩, hw''⟩ := hw'
      subst hw''
      have HO2 := Lib.hid (HO.out.under (below_regrown wr dq osq))
      generalize (Go.Sort.grow (redrawn wr dq) osq) = w2 at *
      clear c0q cw
      go_wp2_with fail
      go_ret
      have h1 : P' = S1 := HSS.out.1
      have h2 : L = L1 := (List.append_nil L).symm.trans HSS.out.2
      exact ⟨_, rq, rfl, by rw [← h2]; exact HROW.out, by rw [← h1]; exact HSH.out _ HO2.out⟩
end
end Go.Proofs.Ytnhdjpeadhcajaa
