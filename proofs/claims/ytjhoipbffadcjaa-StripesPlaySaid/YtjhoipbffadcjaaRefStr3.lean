/- The document's stripes (pantryref13): what they do. -/
import Derived.Test.YtjhoipbffadcjaaRefStr2
namespace Go.Proofs.Ytjhoipbffadcjaa
open Go.RowKit Go.Sep
section
variable {g n m : Nat} {seed : Int} {L : Nat → List Int} {G : Nat → Nat} {w0 w : World} {F r : Own}
/-- stripes at their place, the row of rings named -/
def RTakeRel (w0 : World) (g : Nat) (seed : Int) (n m : Nat) (L : Nat → List Int) (G : Nat → Nat) (v : Value) (q : Own) (gs : List Nat) (F : Own) (w : World) : Prop :=
  ∃ os, RsIn n v q gs m L G os ∧ Owned w0 w (RsB g seed v q os ++ F)
set_option maxHeartbeats 1600000 in
theorem rst_take_none (hLb : ∀ i, i < m → (L i).length ≤ 4096) (hall : ∀ i, i < m → L i = []) (hr : RsAt g seed n m L G r) (h : Owned w0 w (r ++ F)) : Calls Try.prog 18 #[.pointer (some ⟨g, 0, none⟩)] w fun e w' => e = .returned (.tuple #[.int .i64 0, .bool false]) ∧ ∃ r', RsAt g seed n m L G r' ∧ Owned w0 w' (r' ++ F) := by
  obtain ⟨v, q, gs, os, rfl, hI⟩ := hr
  have m2 := hI.m2
  obtain ⟨A, c, rfl, hcell⟩ := rrow_reads (w0 := w0) hI.row
  have HCELL := Lib.hid hcell
  have HALL := Lib.hid hall
  have LB := Lib.hid hLb
  have HR := Lib.hid (show RTakeRel w0 g seed n m L G (.slice A m c) q gs F w from ⟨os, hI, h⟩)
  clear h hI hcell hLb hall
  go_enter Try.func18, Try.ntmps18
  go_wp2_with fail
  go_loopw [4, 5, 6] (fun x13 _ _ wr => ∃ i : Nat, i ≤ m ∧ x13 = .int .i64 i ∧ Hid (RTakeRel w0 g seed n m L G (.slice A m c) q gs F wr)) (fun x13 _ _ _ => m - (intOf x13).toNat)
  case atStart => exact ⟨0, Nat.zero_le _, rfl, HR⟩
  case round =>
    clear HR
    obtain ⟨i, hi, rfl, hrel⟩ := hrel
    obtain ⟨os1, hI, hO⟩ := hrel.out
    clear hrel
    have c0 := rst_c0 hO
    by_cases hlt : i < m
    · obtain ⟨b, rfl, hc⟩ := HCELL.out (by omega)
      have cx := hc _ _ (rst_q hO) i hlt
      have hri := hI.rings i hlt
      have hLi := HALL.out i hlt
      rw [hLi] at hri
      have hol := hI.ol
      have cs := ref_take hri (by have := LB.out i hlt; simp_all; try omega) (rst_out (by rw [hol]; exact hlt) hO)
      have HI := Lib.hid hI
      have HOL := Lib.hid hol
      have HLI := Lib.hid hLi
      clear hc HCELL hLi hri hI hol
      generalize hgi : gs.getD i 0 = gi at *
      have HGI := Lib.hid hgi
      unfold rptr at cx
      clear hgi hO
      go_wp2_with fail
      go_at_call 34
      refine (cs).mono ?_
      rintro e w1 ⟨r3, rfl, hr3, hO1⟩
      have HO5 := Lib.hid (show RTakeRel w0 g seed n m L G (.slice (some ⟨b, 0, none⟩) m c) q gs F w1 from
        ⟨_, ((HI.out.set hlt (by rw [HGI.out]; exact hr3)).congr (fun j _ => by rw [show ([] : List Int).tail = L i by rw [HLI.out]; rfl, updF_id]) (fun j _ => by rw [updF_id])), rst_in (by rw [HOL.out]; exact hlt) hO1⟩)
      clear hr3 hO1 cs
      go_wp2_with fail
      go_roundw
      case rel => exact ⟨i + 1, by omega, by go_num, HO5⟩
      case measure => simp [intOf]; omega
    · obtain rfl : i = m := by omega
      have HO := Lib.hid (And.intro hI hO)
      clear hO hI
      go_wp2_with fail
      go_ret2
      exact ⟨rfl, _, ⟨_, _, _, _, rfl, HO.out.1⟩, HO.out.2⟩
set_option maxHeartbeats 1600000 in
theorem rst_take_some (hLb : ∀ i, i < m → (L i).length ≤ 4096) {k : Nat} {x : Int} {K : List Int} (hk : k < m) (hall : ∀ i, i < k → L i = []) (hx : L k = x :: K) (hr : RsAt g seed n m L G r) (h : Owned w0 w (r ++ F)) : Calls Try.prog 18 #[.pointer (some ⟨g, 0, none⟩)] w fun e w' => e = .returned (.tuple #[.int .i64 x, .bool true]) ∧ ∃ r', RsAt g seed n m (updF L k K) G r' ∧ Owned w0 w' (r' ++ F) := by
  obtain ⟨v, q, gs, os, rfl, hI⟩ := hr
  have m2 := hI.m2
  obtain ⟨A, c, rfl, hcell⟩ := rrow_reads (w0 := w0) hI.row
  have HCELL := Lib.hid hcell
  have HALL := Lib.hid hall
  have LB := Lib.hid hLb
  have HX := Lib.hid hx
  have HR := Lib.hid (show RTakeRel w0 g seed n m L G (.slice A m c) q gs F w from ⟨os, hI, h⟩)
  clear h hI hcell hLb hall hx
  go_enter Try.func18, Try.ntmps18
  go_wp2_with fail
  go_loopw [4, 5, 6] (fun x13 _ _ wr => ∃ i : Nat, i ≤ k ∧ x13 = .int .i64 i ∧ Hid (RTakeRel w0 g seed n m L G (.slice A m c) q gs F wr)) (fun x13 _ _ _ => m - (intOf x13).toNat)
  case atStart => exact ⟨0, Nat.zero_le _, rfl, HR⟩
  case round =>
    clear HR
    obtain ⟨i, hi, rfl, hrel⟩ := hrel
    obtain ⟨os1, hI, hO⟩ := hrel.out
    clear hrel
    have c0 := rst_c0 hO
    have hlt : i < m := by omega
    obtain ⟨b, rfl, hc⟩ := HCELL.out (by omega)
    have cx := hc _ _ (rst_q hO) i hlt
    have hri := hI.rings i hlt
    have hol := hI.ol
    have HI := Lib.hid hI
    have HOL := Lib.hid hol
    by_cases hik : i < k
    · have hLi := HALL.out i hik
      rw [hLi] at hri
      have cs := ref_take hri (by have := LB.out i hlt; simp_all; try omega) (rst_out (by rw [hol]; exact hlt) hO)
      have HLI := Lib.hid hLi
      clear hc HCELL hLi hri hI hol
      generalize hgi : gs.getD i 0 = gi at *
      have HGI := Lib.hid hgi
      unfold rptr at cx
      clear hgi hO
      go_wp2_with fail
      go_at_call 34
      refine (cs).mono ?_
      rintro e w1 ⟨r3, rfl, hr3, hO1⟩
      have HO5 := Lib.hid (show RTakeRel w0 g seed n m L G (.slice (some ⟨b, 0, none⟩) m c) q gs F w1 from
        ⟨_, ((HI.out.set hlt (by rw [HGI.out]; exact hr3)).congr (fun j _ => by rw [show ([] : List Int).tail = L i by rw [HLI.out]; rfl, updF_id]) (fun j _ => by rw [updF_id])), rst_in (by rw [HOL.out]; exact hlt) hO1⟩)
      clear hr3 hO1 cs
      go_wp2_with fail
      go_roundw
      case rel => exact ⟨i + 1, by omega, by go_num, HO5⟩
      case measure => simp [intOf]; omega
    · obtain rfl : i = k := by omega
      rw [HX.out] at hri
      have cs := ref_take hri (by rw [← HX.out]; have := LB.out i hlt; omega) (rst_out (by rw [hol]; exact hlt) hO)
      clear hc HCELL hri hI hol
      generalize hgi : gs.getD i 0 = gi at *
      have HGI := Lib.hid hgi
      unfold rptr at cx
      clear hgi hO
      go_wp2_with fail
      go_at_call 34
      refine (cs).mono ?_
      rintro e w1 ⟨r3, rfl, hr3, hO1⟩
      have HO5 := Lib.hid (show ∃ r', RsAt g seed n m (updF L i K) G r' ∧ Owned w0 w1 (r' ++ F) from
        ⟨_, ⟨_, _, _, _, rfl, ((HI.out.set hlt (by rw [HGI.out]; exact hr3)).congr (fun j _ => rfl) (fun j _ => by rw [updF_id]))⟩, rst_in (by rw [HOL.out]; exact hlt) hO1⟩)
      clear hr3 hO1 cs
      go_wp2_with fail
      go_ret2
      exact ⟨rfl, HO5.out⟩
def RDrainRel (w0 : World) (g : Nat) (seed : Int) (n m : Nat) (L : Nat → List Int) (G : Nat → Nat) (v : Value) (q : Own) (gs : List Nat) (F : Own) (i : Nat) (x : Value) (w : World) : Prop :=
  ∃ q1 os, Row 3 1 x (catTo L i).length (ints (catTo L i)) q1 ∧ RsIn n v q gs m (drTo L i) G os ∧ Owned w0 w (q1 ++ (RsB g seed v q os ++ F))
set_option maxHeartbeats 1600000 in
theorem rst_drain (hLb : ∀ i, i < m → (L i).length ≤ 4096) (hr : RsAt g seed n m L G r) (h : Owned w0 w (r ++ F)) : Calls Try.prog 19 #[.pointer (some ⟨g, 0, none⟩)] w fun e w' => ∃ v q r', e = .returned v ∧ Row 3 1 v (catTo L m).length (ints (catTo L m)) q ∧ RsAt g seed n m (fun _ => []) G r' ∧ Owned w0 w' (q ++ (r' ++ F)) := by
  obtain ⟨v, q, gs, os, rfl, hI⟩ := hr
  have m2 := hI.m2
  obtain ⟨A, c, rfl, hcell⟩ := rrow_reads (w0 := w0) hI.row
  have HCELL := Lib.hid hcell
  have CB := Lib.hid (show ∀ i, i ≤ m → (catTo L i).length ≤ 4096 * i from fun i => by
    induction i with
    | zero => intro _; exact Nat.le_refl _
    | succ k ih =>
      intro hi
      have h1 := ih (by omega)
      have h2 := hLb k (by omega)
      rw [catTo, List.length_append]
      omega)
  have LB := Lib.hid (show ∀ i, i < m → (L i).length ≤ 4096 from hLb)
  have HR := Lib.hid (show RDrainRel w0 g seed n m L G (.slice A m c) q gs F 0 (.slice none 0 0) w from ⟨[], os, Row.nil _ _, hI.congr (fun i _ => by unfold drTo; rw [if_neg (by omega)]) (fun _ _ => rfl), h⟩)
  clear h hI hcell hLb
  go_enter Try.func19, Try.ntmps19
  go_wp2_with fail
  go_loopw [3, 4] (fun x3 x11 wr => ∃ i : Nat, i ≤ m ∧ x11 = .int .i64 i ∧ Hid (RDrainRel w0 g seed n m L G (.slice A m c) q gs F i x3 wr)) (fun _ x11 _ => m - (intOf x11).toNat)
  case atStart => exact ⟨0, Nat.zero_le _, rfl, HR⟩
  case round =>
    clear HR
    obtain ⟨i, hi, rfl, hrel⟩ := hrel
    obtain ⟨q1, os1, hrow, hI, hO⟩ := hrel.out
    clear hrel
    obtain ⟨A1, c1, rfl⟩ := hrow.slice
    have c0 := rst_c0 (Owned.drop_ hO)
    by_cases hlt : i < m
    · obtain ⟨b, rfl, hc⟩ := HCELL.out (by omega)
      have cx := hc _ _ (rst_q (Owned.drop_ hO)) i hlt
      have hLi : drTo L i i = L i := by unfold drTo; rw [if_neg (by omega)]
      have hri := hI.rings i hlt
      rw [hLi] at hri
      have hol := hI.ol
      have cs := ref_drain hri (Owned.comm (rst_out_under (by rw [hol]; exact hlt) hO))
      have hcb := CB.out i hi
      have hlb := LB.out i hlt
      have CS := Lib.hid (show catTo L (i + 1) = catTo L i ++ L i from rfl)
      have hm1 : (catTo L i).length + (L i).length ≤ maxLen := by unfold maxLen; omega
      have hm2 : ((catTo L i).length + (L i).length) * 8 ≤ 140737488355328 := by omega
      have HI := Lib.hid hI
      have HOL := Lib.hid hol
      clear hc HCELL hLi hri hI hol
      generalize hgi : gs.getD i 0 = gi at *
      have HGI := Lib.hid hgi
      unfold rptr at cx
      clear hgi
      go_wp2_with fail
      go_at_call 35
      refine (cs).mono ?_
      rintro e w1 ⟨v1, r1, r3, rfl, hrow1, hr3, hO1⟩
      have hO1' := hO1.third
      go_wp2_with (at_builtin; refine append_rows rfl (.tmp 14) (.tmp 22) 26 rfl 3 (.int .i64 0) 1 8 Try.underlying26 infoI rfl (by decide) _ _ (catTo L i).length (L i).length _ _ q1 r1 _ rfl rfl hrow hrow1 hO1' (ints_one _) hm1 hm2 ?_)
      intro v2 q2 w4 hrow2 hO4
      have hO5 := (Owned.comm hO4).drop_
      have HO5 := Lib.hid (show RDrainRel w0 g seed n m L G (.slice (some ⟨b, 0, none⟩) m c) q gs F (i + 1) v2 w4 from
        ⟨q2, _, by rw [CS.out, List.length_append, ints_append]; exact hrow2,
          ((HI.out.set hlt (by rw [HGI.out]; exact hr3)).congr (fun j _ => by rw [drTo_step]) (fun j _ => by rw [updF_id])),
          rst_in_under (by rw [HOL.out]; exact hlt) hO5⟩)
      clear hrow hO hO1 hO1' hrow2 hO4 hO5 hrow1 hr3
      go_wp2_with fail
      go_roundw
      case rel => exact ⟨i + 1, by omega, by go_num, HO5⟩
      case measure => simp [intOf]; omega
    · obtain rfl : i = m := by omega
      have HO := Lib.hid (And.intro hrow (And.intro hI hO))
      clear hrow hO hI
      go_wp2_with fail
      go_ret
      exact ⟨_, q1, _, rfl, HO.out.1, ⟨_, _, _, _, rfl, HO.out.2.1.congr (fun j hj => by unfold drTo; rw [if_pos hj]) (fun _ _ => rfl)⟩, HO.out.2.2⟩
set_option maxHeartbeats 3200000 in
theorem rst_offer (thread v : Int) {p : Nat} (hp : plT seed thread m = p) {b : Bool} (hb : decide ((L p).length < n) = b) (hLb : ∀ i, i < m → (L i).length ≤ 4096) (hg : ∀ i, i < m → G i + 1 ≤ 1000000) (hr : RsAt g seed n m L G r) (h : Owned w0 w (r ++ F)) :
    Calls Try.prog 20 #[.pointer (some ⟨g, 0, none⟩), .int .i64 thread, .int .i64 v] w fun e w' => e = .returned (.bool b) ∧ ∃ r', RsAt g seed n m (offL n L p v) (offG n L G p) r' ∧ Owned w0 w' (r' ++ F) := by
  have hr' := hr
  obtain ⟨u, q, gs, os, rfl, hI⟩ := hr
  have m1 := hI.m1
  have m2 := hI.m2
  have hpm : p < m := by rw [← hp]; exact plT_lt _ _ m1
  obtain ⟨A, c, rfl, hcell⟩ := rrow_reads (w0 := w0) hI.row
  obtain ⟨bb, rfl, hc⟩ := hcell (by omega)
  have HCELL := Lib.hid (fun (W : World) (hW : Owned w0 W (RsB g seed (.slice (some ⟨bb, 0, none⟩) m c) q os ++ F)) => hc _ _ (rst_q hW) p hpm)
  have CP := Lib.hid (fun (W : World) (hW : Owned w0 W (RsB g seed (.slice (some ⟨bb, 0, none⟩) m c) q os ++ F)) => (hp ▸ rst_place thread hr' hW : Calls Try.prog 21 #[.pointer (some ⟨g, 0, none⟩), .int .i64 thread] W fun e w' => e = .returned (.int .i64 (p : Nat)) ∧ Below W.heap.size W w'))
  have hol := hI.ol
  have CO := Lib.hid (fun (W : World) (hW : Owned w0 W (RsB g seed (.slice (some ⟨bb, 0, none⟩) m c) q os ++ F)) => ref_offer v (hI.rings p hpm) (by have := hLb p hpm; omega) (by have := hg p hpm; omega) (rst_out (by rw [hol]; exact hpm) hW))
  have HI := Lib.hid hI
  have HOL := Lib.hid hol
  have HO := Lib.hid h
  have c0 := rst_c0 h
  have HB := Lib.hid hb
  have k0 : ((p : Nat) : Int) < (m : Int) := by omega
  have k1 : (0 : Int) ≤ ((p : Nat) : Int) := by omega
  clear hcell hc h hI hol hr' hp hb hg hLb
  generalize hgi : gs.getD p 0 = gi at *
  have HGI := Lib.hid hgi
  clear hgi
  go_enter Try.func20, Try.ntmps20
  go_wp2_with fail
  go_region_with (first
    | (go_at_call 21; (with_reducible refine (CP.out _ HO.out.drew).mono ?_); rintro e w5 ⟨rfl, hb5⟩; have HO5 := Lib.hid (HO.out.drew.under hb5); have cx := HCELL.out _ HO5.out; have c5 := rst_c0 HO5.out; unfold rptr at cx; clear hb5)
    | (go_at_call 36; (with_reducible refine (CO.out _ HO5.out).mono ?_); rintro e w6 ⟨r6, rfl, hr6, hO6⟩; have HR6 := Lib.hid hr6; have HO6 := Lib.hid hO6; clear hr6 hO6))
  all_goals
    go_wp2_with fail
    go_ret
    exact ⟨by rw [← HB.out]; rfl, _, ⟨_, _, _, _, rfl, (HI.out.set hpm (by rw [HGI.out]; exact HR6.out))⟩, rst_in (by rw [HOL.out]; exact hpm) HO6.out⟩
def RSNewRel (w0 : World) (F : Own) (g : Nat) (seed : Int) (n k : Nat) (w : World) : Prop :=
  ∃ (v : Value) (q : Own) (gs : List Nat) (os : List Own), Row 58 1 v k (gs.map rptr) q ∧ gs.length = k ∧ os.length = k ∧ (∀ i, i < k → RefRing (gs.getD i 0) n [] 0 (os.getD i [])) ∧ Owned w0 w (RsB g seed v q os ++ F)
theorem rsnew_step {gs : List Nat} {os : List Own} {v : Value} {q rk : Own} {gk k : Nat} {w' : World} (hgl : gs.length = k) (hol : os.length = k) (hR : ∀ i, i < k → RefRing (gs.getD i 0) n [] 0 (os.getD i []))
    (hrk : RefRing gk n [] 0 rk) (hrow : Row 58 1 v (k + 1) (gs.map rptr ++ [rptr gk]) q) (hO : Owned w0 w' ([(g, .cells #[v, .int .i64 seed] 57 (0, 0))] ++ (q ++ (rk ++ (os.flatten ++ F))))) : RSNewRel w0 F g seed n (k + 1) w' := by
  refine ⟨v, q, gs ++ [gk], os ++ [rk], by rw [List.map_append]; exact hrow, by simp [hgl], by simp [hol], fun i hi => ?_, ?_⟩
  · by_cases e : i < k
    · rw [getD_snoc_lt _ _ _ (by omega), getD_snoc_lt _ _ _ (by omega)]
      exact hR i e
    · obtain rfl : i = k := by omega
      have e1 : (gs ++ [gk]).getD i 0 = gk := by rw [← hgl]; exact getD_snoc_eq _ _ _
      have e2 : (os ++ [rk]).getD i [] = rk := by rw [← hol]; exact getD_snoc_eq _ _ _
      rw [e1, e2]
      exact hrk
  · refine hO.perm ?_
    rw [RsB_app, List.flatten_append, List.append_assoc]
    refine List.Perm.append_left _ ?_
    have e : [rk].flatten = rk := by simp
    rw [e]
    exact List.Perm.append_left _ (perm2 _ _ _)
set_option maxHeartbeats 3200000 in
theorem rst_new (count size seed : Int) (h : Owned w0 w F) : Calls Try.prog 16 #[.int .i64 count, .int .i64 size, .int .i64 seed] w fun e w' => ∃ g r, e = .returned (.pointer (some ⟨g, 0, none⟩)) ∧ RsAt g seed (ringSize size) (stripeN count) (fun _ => []) (fun _ => 0) r ∧ Owned w0 w' (r ++ F) := by
  have hc := refceil_calls count 1 64 0 6 rfl rfl (by omega) (by omega)
  have e0 : P2 (up count 0 (6 - 0)) = ((stripeN count : Nat) : Int) := P2_nat _
  rw [e0] at hc
  obtain ⟨m1, m2⟩ := stripeN_bd count
  clear e0
  generalize stripeN count = m at *
  have CN := Lib.hid (fun (W : World) (F : Own) (hW : Owned w0 W F) => ref_new size hW)
  generalize ringSize size = n at *
  have hO := h.alloc (.cells #[.slice none 0 0, .int .i64 seed] 57)
  have HO := Lib.hid (show RSNewRel w0 F w.heap.size seed n 0 (w.alloc (.cells #[.slice none 0 0, .int .i64 seed] 57)) from ⟨_, [], [], [], Row.nil _ _, rfl, rfl, fun i hi => absurd hi (Nat.not_lt_zero _), hO⟩)
  clear h hO
  generalize hg : w.heap.size = g at *
  go_enter Try.func16, Try.ntmps16
  have HCC := Lib.hid hc
  clear hc
  go_wp2_with fail
  go_loopw [8] (fun x13 wr => ∃ k : Nat, k ≤ m ∧ x13 = .int .i64 k ∧ Hid (RSNewRel w0 F g seed n k wr)) (fun x13 _ => m - (intOf x13).toNat)
  case atStart => exact ⟨0, by omega, rfl, by simpa using HO⟩
  case round =>
    clear HO hg
    obtain ⟨k, hk, rfl, hrel⟩ := hrel
    obtain ⟨v, q, gs, os, hrow, hgl, hol, hR, hO⟩ := hrel.out
    clear hrel
    obtain ⟨A, c, rfl⟩ := hrow.slice
    have hc := HCC.out
    by_cases hlt : k < m
    · have c0 := rst_c0 hO
      have HO := Lib.hid hO
      have HR := Lib.hid (And.intro hgl (And.intro hol hR))
      have hm1 : k + 1 ≤ maxLen := by unfold maxLen; omega
      have hm2 : (k + 1) * 8 ≤ 140737488355328 := by omega
      clear hO hgl hol hR
      go_wp2_with fail
      go_at_call 32
      refine (hc _).mono ?_
      rintro e w1 ⟨rfl, rfl⟩
      clear hc
      go_wp2_with fail
      go_region_law (first
        | (refine step_append_one rfl (.tmp 22) (.tmp 25) 55 rfl 58 (.pointer none) 8 Try.underlying55 info_rp rfl _ k _ q _ (rptr gk) rfl hrow HO5.out rfl (rptr_one _) hm1 hm2 ?_; intro b2 c2 r2 w6 hrow2 hO6; have HROW2 := Lib.hid hrow2; have HO6 := Lib.hid (Owned.third (a := r2) (b := rk) (c := [_]) hO6); have c6 : w6.cell? ⟨g, 0, none⟩ = some (.slice A k c) := (Owned.cell HO6.out 0).trans rfl; have f6 : w6.frozen? ⟨g, 0, none⟩ = false := Owned.frozen HO6.out 0; clear hrow2 hO6)
        | (go_simp; go_wp2_with (go_at_call 33; (with_reducible refine (CN.out _ _ HO.out.drew).mono ?_); rintro e w5 ⟨gk, rk, rfl, hrk, hO5⟩; have HRK := Lib.hid hrk; rw [RsB_app] at hO5; have HO5 := Lib.hid (Owned.third (a := rk) (b := [_]) (c := q) hO5); have c5 : w5.cell? ⟨g, 0, none⟩ = some (.slice A k c) := (Owned.cell (Owned.comm (a := rk) (b := [_]) hO5) 0).trans rfl; have g5 : g < w5.heap.size := Owned.lt (Owned.comm (a := rk) (b := [_]) hO5); clear hO5 hrk)))
      all_goals
        have HN := Lib.hid (rsnew_step HR.out.1 HR.out.2.1 HR.out.2.2 HRK.out HROW2.out (Owned.set HO6.out 0 (.slice (some ⟨b2, 0, none⟩) (k + 1) c2)))
        go_wp2_with fail
        go_roundw
        case rel => exact ⟨k + 1, by omega, by go_num, HN⟩
        case measure => simp [intOf]; omega
    · obtain rfl : k = m := by omega
      have HO := Lib.hid (And.intro hrow (And.intro hgl (And.intro hol (And.intro hR hO))))
      clear hrow hgl hol hR hO
      go_wp2_with fail
      go_at_call 32
      refine (hc _).mono ?_
      rintro e w1 ⟨rfl, rfl⟩
      go_wp2_with fail
      go_ret
      exact ⟨g, _, rfl, ⟨_, _, _, _, rfl, ⟨HO.out.1, HO.out.2.1, HO.out.2.2.1, m1, m2, HO.out.2.2.2.1⟩⟩, HO.out.2.2.2.2⟩
end
end Go.Proofs.Ytjhoipbffadcjaa
