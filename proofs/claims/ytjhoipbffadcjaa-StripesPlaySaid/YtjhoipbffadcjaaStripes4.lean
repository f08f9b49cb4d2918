/- Layer 13: stripes: what they do: New, Offer, Take, Drain, Lens. -/
import Derived.Test.YtjhoipbffadcjaaStripes3
namespace Go.Proofs.Ytjhoipbffadcjaa
open Go.RowKit Go.Sep
theorem infoI : (Try.prog.info? 3).map (fun i => (i.zero, i.size, i.bytes)) = some (some (.int .i64 0), 1, 8) := by kernel_rfl
def lensTo (L : Nat → List Int) (k : Nat) : List Int := (List.range k).map (fun j => (((L j).length : Nat) : Int))
theorem lensTo_succ (L : Nat → List Int) (k : Nat) : lensTo L (k + 1) = lensTo L k ++ [(((L k).length : Nat) : Int)] := by
  unfold lensTo
  rw [List.range_succ, List.map_append]
  rfl
theorem lensTo_len (L : Nat → List Int) (k : Nat) : (lensTo L k).length = k := by simp [lensTo]
theorem ints_append (a b : List Int) : ints (a ++ b) = ints a ++ ints b := by simp [ints]
/-- all that the first ones hold -/
def catTo (L : Nat → List Int) : Nat → List Int
  | 0 => []
  | k + 1 => catTo L k ++ L k
theorem catTo_len (L : Nat → List Int) : ∀ k, (catTo L k).length = sumL L k
  | 0 => rfl
  | k + 1 => by rw [catTo, List.length_append, catTo_len L k, sumL]
/-- behind a draining of the first ones -/
def drTo (L : Nat → List Int) (k : Nat) : Nat → List Int := fun j => if j < k then [] else L j
theorem drTo_step (L : Nat → List Int) (k : Nat) : updF (drTo L k) k [] = drTo L (k + 1) := by
  funext j
  unfold updF drTo
  by_cases e : j = k
  · rw [if_pos e, if_pos (by omega)]
  · rw [if_neg e]
    by_cases h : j < k
    · rw [if_pos h, if_pos (by omega)]
    · rw [if_neg h, if_neg (by omega)]
section
variable {g n m : Nat} {seed : Int} {L : Nat → List Int} {G : Nat → Nat} {w0 w : World} {F r : Own}
def LensRel (w0 : World) (X : Own) (L : Nat → List Int) (i : Nat) (x : Value) (w : World) : Prop := ∃ q, Row 3 1 x i (ints (lensTo L i)) q ∧ Owned w0 w (q ++ X)
set_option maxHeartbeats 1600000 in
theorem st_lens (hr : StAt g seed n m L G r) (h : Owned w0 w (r ++ F)) : Calls Try.prog 11 #[.pointer (some ⟨g, 0, none⟩)] w fun e w' => ∃ v q, e = .returned v ∧ Row 3 1 v m (ints (lensTo L m)) q ∧ Owned w0 w' (q ++ (r ++ F)) := by
  obtain ⟨v, q, gs, os, rfl, hI⟩ := hr
  have m2 := hI.m2
  have c0 := st_c0 h
  obtain ⟨A, c, rfl, hcell⟩ := row_reads (w0 := w0) hI.row
  have HCELL := Lib.hid hcell
  have HI := Lib.hid hI
  have HR := Lib.hid (show LensRel w0 (StB g seed (.slice A m c) q os ++ F) L 0 (.slice none 0 0) w from ⟨[], Row.nil _ _, h⟩)
  have HM := Lib.hid (m_len)
  clear h hI hcell
  go_enter Try.func11, Try.ntmps11
  go_wp2_with fail
  go_loopw [3, 5, 11] (fun x3 _ x11 wr => ∃ i : Nat, i ≤ m ∧ x11 = .int .i64 i ∧ Hid (LensRel w0 (StB g seed (.slice A m c) q os ++ F) L i x3 wr)) (fun _ _ x11 _ => m - (intOf x11).toNat)
  case atStart => exact ⟨0, Nat.zero_le _, rfl, HR⟩
  case round =>
    clear HR c0
    obtain ⟨i, hi, rfl, hrel⟩ := hrel
    obtain ⟨q1, hrow, hO⟩ := hrel.out
    clear hrel
    obtain ⟨A1, c1, rfl⟩ := hrow.slice
    by_cases hlt : i < m
    · obtain ⟨b, rfl, hc⟩ := HCELL.out (by omega)
      have cx := hc _ _ (st_q (Owned.drop_ hO)) i hlt
      have cs := ring_len_calls (HI.out.rings i hlt) (st_out (by rw [HI.out.ol]; exact hlt) (Owned.drop_ hO))
      have hm := HM.out (gs.getD i 0)
      have LS := Lib.hid (lensTo_succ L i)
      have LL := Lib.hid (lensTo_len L i)
      have hm1 : i + 1 ≤ maxLen := by unfold maxLen; omega
      have hm2 : (i + 1) * 8 ≤ 140737488355328 := by omega
      clear hc HCELL
      generalize gs.getD i 0 = gi at *
      generalize (L i).length = li at *
      unfold ifc at cx
      go_wp2_with fail
      go_at_call 61
      refine (cs).mono ?_
      rintro e w1 ⟨rfl, rfl⟩
      go_wp2_with (at_builtin; refine append_one rfl (.tmp 15) (.tmp 18) 26 rfl 3 (.int .i64 0) 8 Try.underlying26 infoI rfl _ i _ q1 _ _ rfl hrow hO rfl rfl hm1 hm2 ?_)
      intro v2 q2 w4 hrow2 hO4
      have HO4 := Lib.hid (show LensRel w0 (StB g seed (.slice (some ⟨b, 0, none⟩) m c) q os ++ F) L (i + 1) v2 w4 from ⟨q2, by rw [LS.out, ints_append]; exact hrow2, hO4⟩)
      clear hrow hO hrow2 hO4
      go_wp2_with fail
      go_roundw
      case rel => exact ⟨i + 1, by omega, by go_num, HO4⟩
      case measure => simp [intOf]; omega
    · obtain rfl : i = m := by omega
      have HO := Lib.hid (And.intro hrow hO)
      clear hrow hO
      go_wp2_with fail
      go_ret
      exact ⟨_, q1, rfl, HO.out.1, HO.out.2⟩
def DrainRel (w0 : World) (g : Nat) (seed : Int) (n m : Nat) (L : Nat → List Int) (G : Nat → Nat) (v : Value) (q : Own) (gs : List Nat) (F : Own) (i : Nat) (x : Value) (w : World) : Prop :=
  ∃ q1 os, Row 3 1 x (catTo L i).length (ints (catTo L i)) q1 ∧ StIn n v q gs m (drTo L i) G os ∧ Owned w0 w (q1 ++ (StB g seed v q os ++ F))
set_option maxHeartbeats 1600000 in
theorem st_drain (hr : StAt g seed n m L G r) (h : Owned w0 w (r ++ F)) : Calls Try.prog 13 #[.pointer (some ⟨g, 0, none⟩)] w fun e w' => ∃ v q r', e = .returned v ∧ Row 3 1 v (catTo L m).length (ints (catTo L m)) q ∧ StAt g seed n m (fun _ => []) G r' ∧ Owned w0 w' (q ++ (r' ++ F)) := by
  obtain ⟨v, q, gs, os, rfl, hI⟩ := hr
  have m2 := hI.m2
  have c0 := st_c0 h
  obtain ⟨A, c, rfl, hcell⟩ := row_reads (w0 := w0) hI.row
  have HCELL := Lib.hid hcell
  have CB := Lib.hid (show ∀ i, i ≤ m → (catTo L i).length ≤ 4096 * i from fun i hi => by rw [catTo_len]; exact hI.sumL_le i hi)
  have LB := Lib.hid (show ∀ i, i < m → (L i).length ≤ 4096 from fun i hi => hI.len_le hi)
  have HR := Lib.hid (show DrainRel w0 g seed n m L G (.slice A m c) q gs F 0 (.slice none 0 0) w from ⟨[], os, Row.nil _ _, hI.congr (fun i _ => by unfold drTo; rw [if_neg (by omega)]) (fun _ _ => rfl), h⟩)
  have HM := Lib.hid (m_drain)
  clear h hI hcell
  go_enter Try.func13, Try.ntmps13
  go_wp2_with fail
  go_loopw [3, 5, 11] (fun x3 _ x11 wr => ∃ i : Nat, i ≤ m ∧ x11 = .int .i64 i ∧ Hid (DrainRel w0 g seed n m L G (.slice A m c) q gs F i x3 wr)) (fun _ _ x11 _ => m - (intOf x11).toNat)
  case atStart => exact ⟨0, Nat.zero_le _, rfl, HR⟩
  case round =>
    clear HR c0
    obtain ⟨i, hi, rfl, hrel⟩ := hrel
    obtain ⟨q1, os1, hrow, hI, hO⟩ := hrel.out
    clear hrel
    obtain ⟨A1, c1, rfl⟩ := hrow.slice
    by_cases hlt : i < m
    · obtain ⟨b, rfl, hc⟩ := HCELL.out (by omega)
      have cx := hc _ _ (st_q (Owned.drop_ hO)) i hlt
      have hLi : drTo L i i = L i := by unfold drTo; rw [if_neg (by omega)]
      have hri := hI.rings i hlt
      rw [hLi] at hri
      have hol := hI.ol
      have cs := ring_drain hri (Owned.comm (st_out_under (by rw [hol]; exact hlt) hO))
      have hm := HM.out (gs.getD i 0)
      have hcb := CB.out i hi
      have hlb := LB.out i hlt
      have CS := Lib.hid (show catTo L (i + 1) = catTo L i ++ L i from rfl)
      have hm1 : (catTo L i).length + (L i).length ≤ maxLen := by unfold maxLen; omega
      have hm2 : ((catTo L i).length + (L i).length) * 8 ≤ 140737488355328 := by omega
      have HI := Lib.hid hI
      have HOL := Lib.hid hol
      clear hc HCELL hLi hri hI hol
      generalize hgi : gs.getD i 0 = gi at *
      have HGI := Lib.hid hgi
      unfold ifc at cx
      clear hgi
      go_wp2_with fail
      go_at_call 60
      refine (cs).mono ?_
      rintro e w1 ⟨v1, r1, r3, rfl, hrow1, hr3, hO1⟩
      have hO1' := hO1.third
      go_wp2_with (at_builtin; refine append_rows rfl (.tmp 15) (.tmp 17) 26 rfl 3 (.int .i64 0) 1 8 Try.underlying26 infoI rfl (by decide) _ _ (catTo L i).length (L i).length _ _ q1 r1 _ rfl rfl hrow hrow1 hO1' (ints_one _) hm1 hm2 ?_)
      intro v2 q2 w4 hrow2 hO4
      have hO5 := (Owned.comm hO4).drop_
      have HO5 := Lib.hid (show DrainRel w0 g seed n m L G (.slice (some ⟨b, 0, none⟩) m c) q gs F (i + 1) v2 w4 from
        ⟨q2, _, by rw [CS.out, List.length_append, ints_append]; exact hrow2,
          ((HI.out.set hlt (by rw [HGI.out]; exact hr3)).congr (fun j _ => by rw [drTo_step]) (fun j _ => by rw [updF_id])),
          st_in_under (by rw [HOL.out]; exact hlt) hO5⟩)
      clear hrow hO hO1 hO1' hrow2 hO4 hO5 hrow1 hr3
      go_wp2_with fail
      go_roundw
      case rel => exact ⟨i + 1, by omega, by go_num, HO5⟩
      case measure => simp [intOf]; omega
    · obtain rfl : i = m := by omega
      have HO := Lib.hid (And.intro hrow (And.intro hI hO))
      clear hrow hO hI
      go_wp2_with fail
      go_ret
      exact ⟨_, q1, _, rfl, HO.out.1, ⟨_, _, _, _, rfl, HO.out.2.1.congr (fun j hj => by unfold drTo; rw [if_pos hj]) (fun _ _ => rfl)⟩, HO.out.2.2⟩
end
end Go.Proofs.Ytjhoipbffadcjaa
