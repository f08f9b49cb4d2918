/- Layer 13: stripes: what they do: Take, Offer, New. -/
import Derived.Test.YtjhoipbffadcjaaStripes4
namespace Go.Proofs.Ytjhoipbffadcjaa
open Go.RowKit Go.Sep
section
variable {g n m : Nat} {seed : Int} {L : Nat → List Int} {G : Nat → Nat} {w0 w : World} {F r : Own}
/-- stripes at their place, the row of rings named -/
def TakeRel (w0 : World) (g : Nat) (seed : Int) (n m : Nat) (L : Nat → List Int) (G : Nat → Nat) (v : Value) (q : Own) (gs : List Nat) (F : Own) (w : World) : Prop :=
  ∃ os, StIn n v q gs m L G os ∧ Owned w0 w (StB g seed v q os ++ F)
set_option maxHeartbeats 1600000 in
theorem st_take_none (hall : ∀ i, i < m → L i = []) (hr : StAt g seed n m L G r) (h : Owned w0 w (r ++ F)) : Calls Try.prog 17 #[.pointer (some ⟨g, 0, none⟩)] w fun e w' => e = .returned (.tuple #[.int .i64 0, .bool false]) ∧ ∃ r', StAt g seed n m L G r' ∧ Owned w0 w' (r' ++ F) := by
  obtain ⟨v, q, gs, os, rfl, hI⟩ := hr
  have m2 := hI.m2
  have c0 := st_c0 h
  obtain ⟨A, c, rfl, hcell⟩ := row_reads (w0 := w0) hI.row
  have HCELL := Lib.hid hcell
  have HALL := Lib.hid hall
  have HR := Lib.hid (show TakeRel w0 g seed n m L G (.slice A m c) q gs F w from ⟨os, hI, h⟩)
  have HM := Lib.hid (m_take)
  clear h hI hcell hall
  go_enter Try.func17, Try.ntmps17
  go_wp2_with fail
  go_loopw [5, 6, 7, 13] (fun _ _ _ x13 wr => ∃ i : Nat, i ≤ m ∧ x13 = .int .i64 i ∧ Hid (TakeRel w0 g seed n m L G (.slice A m c) q gs F wr)) (fun _ _ _ x13 _ => m - (intOf x13).toNat)
  case atStart => exact ⟨0, Nat.zero_le _, rfl, HR⟩
  case round =>
    clear HR c0
    obtain ⟨i, hi, rfl, hrel⟩ := hrel
    obtain ⟨os1, hI, hO⟩ := hrel.out
    clear hrel
    by_cases hlt : i < m
    · obtain ⟨b, rfl, hc⟩ := HCELL.out (by omega)
      have cx := hc _ _ (st_q hO) i hlt
      have hri := hI.rings i hlt
      have hLi := HALL.out i hlt
      rw [hLi] at hri
      have hol := hI.ol
      have cs := ring_take hri (st_out (by rw [hol]; exact hlt) hO)
      have hm := HM.out (gs.getD i 0)
      have HI := Lib.hid hI
      have HOL := Lib.hid hol
      have HLI := Lib.hid hLi
      clear hc HCELL hLi hri hI hol
      generalize hgi : gs.getD i 0 = gi at *
      have HGI := Lib.hid hgi
      unfold ifc at cx
      clear hgi hO
      go_wp2_with fail
      go_at_call 64
      refine (cs).mono ?_
      rintro e w1 ⟨r3, rfl, hr3, hO1⟩
      have HO5 := Lib.hid (show TakeRel w0 g seed n m L G (.slice (some ⟨b, 0, none⟩) m c) q gs F w1 from
        ⟨_, ((HI.out.set hlt (by rw [HGI.out]; exact hr3)).congr (fun j _ => by rw [show ([] : List Int).tail = L i by rw [HLI.out]; rfl, updF_id]) (fun j _ => by rw [updF_id])), st_in (by rw [HOL.out]; exact hlt) hO1⟩)
      clear hr3 hO1 cs
      go_wp2_with fail
      go_roundw
      case rel => exact ⟨i + 1, by omega, by go_num, HO5⟩
      case measure => simp [intOf]; omega
    · obtain rfl : i = m := by omega
      have HO := Lib.hid (And.intro hI hO)
      clear hO hI
      go_wp2_with fail
      go_ret2
      exact ⟨rfl, _, ⟨_, _, _, _, rfl, HO.out.1⟩, HO.out.2⟩
set_option maxHeartbeats 1600000 in
theorem st_take_some {k : Nat} {x : Int} {K : List Int} (hk : k < m) (hall : ∀ i, i < k → L i = []) (hx : L k = x :: K) (hr : StAt g seed n m L G r) (h : Owned w0 w (r ++ F)) : Calls Try.prog 17 #[.pointer (some ⟨g, 0, none⟩)] w fun e w' => e = .returned (.tuple #[.int .i64 x, .bool true]) ∧ ∃ r', StAt g seed n m (updF L k K) G r' ∧ Owned w0 w' (r' ++ F) := by
  obtain ⟨v, q, gs, os, rfl, hI⟩ := hr
  have m2 := hI.m2
  have c0 := st_c0 h
  obtain ⟨A, c, rfl, hcell⟩ := row_reads (w0 := w0) hI.row
  have HCELL := Lib.hid hcell
  have HALL := Lib.hid hall
  have HX := Lib.hid hx
  have HR := Lib.hid (show TakeRel w0 g seed n m L G (.slice A m c) q gs F w from ⟨os, hI, h⟩)
  have HM := Lib.hid (m_take)
  clear h hI hcell hall hx
  go_enter Try.func17, Try.ntmps17
  go_wp2_with fail
  go_loopw [5, 6, 7, 13] (fun _ _ _ x13 wr => ∃ i : Nat, i ≤ k ∧ x13 = .int .i64 i ∧ Hid (TakeRel w0 g seed n m L G (.slice A m c) q gs F wr)) (fun _ _ _ x13 _ => m - (intOf x13).toNat)
  case atStart => exact ⟨0, Nat.zero_le _, rfl, HR⟩
  case round =>
    clear HR c0
    obtain ⟨i, hi, rfl, hrel⟩ := hrel
    obtain ⟨os1, hI, hO⟩ := hrel.out
    clear hrel
    have hlt : i < m := by omega
    obtain ⟨b, rfl, hc⟩ := HCELL.out (by omega)
    have cx := hc _ _ (st_q hO) i hlt
    have hri := hI.rings i hlt
    have hol := hI.ol
    have hm := HM.out (gs.getD i 0)
    have HI := Lib.hid hI
    have HOL := Lib.hid hol
    by_cases hik : i < k
    · have hLi := HALL.out i hik
      rw [hLi] at hri
      have cs := ring_take hri (st_out (by rw [hol]; exact hlt) hO)
      have HLI := Lib.hid hLi
      clear hc HCELL hLi hri hI hol
      generalize hgi : gs.getD i 0 = gi at *
      have HGI := Lib.hid hgi
      unfold ifc at cx
      clear hgi hO
      go_wp2_with fail
      go_at_call 64
      refine (cs).mono ?_
      rintro e w1 ⟨r3, rfl, hr3, hO1⟩
      have HO5 := Lib.hid (show TakeRel w0 g seed n m L G (.slice (some ⟨b, 0, none⟩) m c) q gs F w1 from
        ⟨_, ((HI.out.set hlt (by rw [HGI.out]; exact hr3)).congr (fun j _ => by rw [show ([] : List Int).tail = L i by rw [HLI.out]; rfl, updF_id]) (fun j _ => by rw [updF_id])), st_in (by rw [HOL.out]; exact hlt) hO1⟩)
      clear hr3 hO1 cs
      go_wp2_with fail
      go_roundw
      case rel => exact ⟨i + 1, by omega, by go_num, HO5⟩
      case measure => simp [intOf]; omega
    · obtain rfl : i = k := by omega
      rw [HX.out] at hri
      have cs := ring_take hri (st_out (by rw [hol]; exact hlt) hO)
      clear hc HCELL hri hI hol
      generalize hgi : gs.getD i 0 = gi at *
      have HGI := Lib.hid hgi
      unfold ifc at cx
      clear hgi hO
      go_wp2_with fail
      go_at_call 64
      refine (cs).mono ?_
      rintro e w1 ⟨r3, rfl, hr3, hO1⟩
      have HO5 := Lib.hid (show ∃ r', StAt g seed n m (updF L i K) G r' ∧ Owned w0 w1 (r' ++ F) from
        ⟨_, ⟨_, _, _, _, rfl, ((HI.out.set hlt (by rw [HGI.out]; exact hr3)).congr (fun j _ => rfl) (fun j _ => by rw [updF_id]))⟩, st_in (by rw [HOL.out]; exact hlt) hO1⟩)
      clear hr3 hO1 cs
      go_wp2_with fail
      go_ret2
      exact ⟨rfl, HO5.out⟩
/-- where an offer leads -/
def offL (n : Nat) (L : Nat → List Int) (p : Nat) (v : Int) : Nat → List Int := updF L p (if (L p).length < n then L p ++ [v] else L p)
def offG (n : Nat) (L : Nat → List Int) (G : Nat → Nat) (p : Nat) : Nat → Nat := updF G p (if (L p).length < n then G p else G p + 1)
set_option maxHeartbeats 3200000 in
theorem st_offer (thread v : Int) {p : Nat} (hp : plT seed thread m = p) {b : Bool} (hb : decide ((L p).length < n) = b) (hg : ∀ i, i < m → G i + 1 ≤ 1000000) (hr : StAt g seed n m L G r) (h : Owned w0 w (r ++ F)) :
    Calls Try.prog 10 #[.pointer (some ⟨g, 0, none⟩), .int .i64 thread, .int .i64 v] w fun e w' => e = .returned (.bool b) ∧ ∃ r', StAt g seed n m (offL n L p v) (offG n L G p) r' ∧ Owned w0 w' (r' ++ F) := by
  have hr' := hr
  obtain ⟨u, q, gs, os, rfl, hI⟩ := hr
  have m1 := hI.m1
  have m2 := hI.m2
  have hpm : p < m := by rw [← hp]; exact plT_lt _ _ m1
  obtain ⟨A, c, rfl, hcell⟩ := row_reads (w0 := w0) hI.row
  obtain ⟨bb, rfl, hc⟩ := hcell (by omega)
  have HCELL := Lib.hid (fun (W : World) (hW : Owned w0 W (StB g seed (.slice (some ⟨bb, 0, none⟩) m c) q os ++ F)) => hc _ _ (st_q hW) p hpm)
  have CP := Lib.hid (fun (W : World) (hW : Owned w0 W (StB g seed (.slice (some ⟨bb, 0, none⟩) m c) q os ++ F)) => (hp ▸ st_place thread hr' hW : Calls Try.prog 9 #[.pointer (some ⟨g, 0, none⟩), .int .i64 thread] W fun e w' => e = .returned (.int .i64 (p : Nat)) ∧ Below W.heap.size W w'))
  have hol := hI.ol
  have CO := Lib.hid (fun (W : World) (hW : Owned w0 W (StB g seed (.slice (some ⟨bb, 0, none⟩) m c) q os ++ F)) => ring_offer v (hI.rings p hpm) (hg p hpm) (st_out (by rw [hol]; exact hpm) hW))
  have HI := Lib.hid hI
  have HOL := Lib.hid hol
  have hm := m_offer (gs.getD p 0)
  have hn := nil_offer (gs.getD p 0)
  have HO := Lib.hid h
  have c0 := st_c0 h
  have HB := Lib.hid hb
  have k0 : ((p : Nat) : Int) < (m : Int) := by omega
  have k1 : (0 : Int) ≤ ((p : Nat) : Int) := by omega
  clear hcell hc h hI hol hr' hp hb hg
  generalize hgi : gs.getD p 0 = gi at *
  have HGI := Lib.hid hgi
  clear hgi
  go_enter Try.func10, Try.ntmps10
  go_wp2_with fail
  go_region_with (first
    | (go_at_call 9; (with_reducible refine (CP.out _ HO.out.drew).mono ?_); rintro e w5 ⟨rfl, hb5⟩; have HO5 := Lib.hid (HO.out.drew.under hb5); have cx := HCELL.out _ HO5.out; have c5 := st_c0 HO5.out; unfold ifc at cx; clear hb5)
    | (go_at_call 63; (with_reducible refine (CO.out _ HO5.out).mono ?_); rintro e w6 ⟨r6, rfl, hr6, hO6⟩; have HR6 := Lib.hid hr6; have HO6 := Lib.hid hO6; clear hr6 hO6))
  all_goals
    go_wp2_with fail
    go_ret
    exact ⟨by rw [← HB.out]; rfl, _, ⟨_, _, _, _, rfl, (HI.out.set hpm (by rw [HGI.out]; exact HR6.out))⟩, st_in (by rw [HOL.out]; exact hpm) HO6.out⟩
end
end Go.Proofs.Ytjhoipbffadcjaa
