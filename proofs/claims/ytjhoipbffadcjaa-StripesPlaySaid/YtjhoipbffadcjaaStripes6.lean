/- Layer 13: stripes: New; the statements' small case comes out right. -/
import Derived.Test.YtjhoipbffadcjaaStripes5
import Derived.Test.YtjhoipbffadcjaaSepStep
namespace Go.Proofs.Ytjhoipbffadcjaa
open Go.RowKit Go.Sep
def stripeN (count : Int) : Nat := 2 ^ up count 0 6
theorem stripeN_bd (count : Int) : 1 ≤ stripeN count ∧ stripeN count ≤ 64 := by
  have h := up_le count 6 0
  have h1 : 2 ^ 0 ≤ 2 ^ up count 0 6 := Nat.pow_le_pow_right (by omega) (by omega)
  have h2 : 2 ^ up count 0 6 ≤ 2 ^ 6 := Nat.pow_le_pow_right (by omega) (by omega)
  have e0 : 2 ^ 0 = 1 := rfl
  have e6 : 2 ^ 6 = 64 := rfl
  unfold stripeN
  omega
section
variable {g n m : Nat} {seed : Int} {L : Nat → List Int} {G : Nat → Nat} {w0 w : World} {F r : Own}
def SNewRel (w0 : World) (F : Own) (g : Nat) (seed : Int) (n k : Nat) (w : World) : Prop :=
  ∃ (v : Value) (q : Own) (gs : List Nat) (os : List Own), Row 51 1 v k (gs.map ifc) q ∧ gs.length = k ∧ os.length = k ∧ (∀ i, i < k → Ring (gs.getD i 0) n [] 0 (os.getD i [])) ∧ Owned w0 w (StB g seed v q os ++ F)
theorem getD_snoc_lt {α : Type} (l : List α) (x d : α) {i : Nat} (h : i < l.length) : (l ++ [x]).getD i d = l.getD i d := by
  simp only [List.getD]
  rw [List.getElem?_append_left h]
theorem getD_snoc_eq {α : Type} (l : List α) (x d : α) : (l ++ [x]).getD l.length d = x := by
  simp [List.getD]
theorem snew_step {gs : List Nat} {os : List Own} {v : Value} {q rk : Own} {gk k : Nat} {w' : World} (hgl : gs.length = k) (hol : os.length = k) (hR : ∀ i, i < k → Ring (gs.getD i 0) n [] 0 (os.getD i []))
    (hrk : Ring gk n [] 0 rk) (hrow : Row 51 1 v (k + 1) (gs.map ifc ++ [ifc gk]) q) (hO : Owned w0 w' ([(g, .cells #[v, .int .i64 seed] 43 (0, 0))] ++ (q ++ (rk ++ (os.flatten ++ F))))) : SNewRel w0 F g seed n (k + 1) w' := by
  refine ⟨v, q, gs ++ [gk], os ++ [rk], by rw [List.map_append]; exact hrow, by simp [hgl], by simp [hol], fun i hi => ?_, ?_⟩
  · by_cases e : i < k
    · rw [getD_snoc_lt _ _ _ (by omega), getD_snoc_lt _ _ _ (by omega)]
      exact hR i e
    · obtain rfl : i = k := by omega
      have e1 : (gs ++ [gk]).getD i 0 = gk := by rw [← hgl]; exact getD_snoc_eq _ _ _
      have e2 : (os ++ [rk]).getD i [] = rk := by rw [← hol]; exact getD_snoc_eq _ _ _
      rw [e1, e2]
      exact hrk
  · refine hO.perm ?_
    rw [StB_app, List.flatten_append, List.append_assoc]
    refine List.Perm.append_left _ ?_
    have e : [rk].flatten = rk := by simp
    rw [e]
    exact List.Perm.append_left _ (perm2 _ _ _)
set_option maxHeartbeats 3200000 in
theorem st_new (count size seed : Int) (h : Owned w0 w F) : Calls Try.prog 8 #[.int .i64 count, .int .i64 size, .int .i64 seed] w fun e w' => ∃ g r, e = .returned (.pointer (some ⟨g, 0, none⟩)) ∧ StAt g seed (ringSize size) (stripeN count) (fun _ => []) (fun _ => 0) r ∧ Owned w0 w' (r ++ F) := by
  have hc := ceil_calls count 1 64 0 6 rfl rfl (by omega) (by omega)
  have e0 : P2 (up count 0 (6 - 0)) = ((stripeN count : Nat) : Int) := P2_nat _
  rw [e0] at hc
  obtain ⟨m1, m2⟩ := stripeN_bd count
  clear e0
  generalize stripeN count = m at *
  have CN := Lib.hid (fun (W : World) (F : Own) (hW : Owned w0 W F) => ring_new size hW)
  generalize ringSize size = n at *
  have hO := h.alloc (.cells #[.slice none 0 0, .int .i64 seed] 43)
  have HO := Lib.hid (show SNewRel w0 F w.heap.size seed n 0 (w.alloc (.cells #[.slice none 0 0, .int .i64 seed] 43)) from ⟨_, [], [], [], Row.nil _ _, rfl, rfl, fun i hi => absurd hi (Nat.not_lt_zero _), hO⟩)
  clear h hO
  generalize hg : w.heap.size = g at *
  go_enter Try.func8, Try.ntmps8
  go_wp2_with fail
  go_at_call 25
  refine (hc _).mono ?_
  rintro e w1 ⟨rfl, rfl⟩
  go_wp2_with fail
  clear hc
  go_loopw [13] (fun x13 wr => ∃ k : Nat, k ≤ m ∧ x13 = .int .i64 k ∧ Hid (SNewRel w0 F g seed n k wr)) (fun x13 _ => m - (intOf x13).toNat)
  case atStart => exact ⟨0, by omega, rfl, by simpa using HO⟩
  case round =>
    clear HO hg
    obtain ⟨k, hk, rfl, hrel⟩ := hrel
    obtain ⟨v, q, gs, os, hrow, hgl, hol, hR, hO⟩ := hrel.out
    clear hrel
    obtain ⟨A, c, rfl⟩ := hrow.slice
    by_cases hlt : k < m
    · have c0 := st_c0 hO
      have HO := Lib.hid hO
      have HR := Lib.hid (And.intro hgl (And.intro hol hR))
      have hm1 : k + 1 ≤ maxLen := by unfold maxLen; omega
      have hm2 : (k + 1) * 16 ≤ 140737488355328 := by omega
      clear hO hgl hol hR
      go_wp2_with fail
      go_region_law (first
        | (refine step_append_one rfl (.tmp 19) (.tmp 23) 41 rfl 51 .nilIface 16 Try.underlying41 info_keeper rfl _ k _ q _ (ifc gk) rfl hrow HO5.out rfl (ifc_one _) hm1 hm2 ?_; intro b2 c2 r2 w6 hrow2 hO6; have HROW2 := Lib.hid hrow2; have HO6 := Lib.hid (Owned.third (a := r2) (b := rk) (c := [_]) hO6); have c6 : w6.cell? ⟨g, 0, none⟩ = some (.slice A k c) := (Owned.cell HO6.out 0).trans rfl; have f6 : w6.frozen? ⟨g, 0, none⟩ = false := Owned.frozen HO6.out 0; clear hrow2 hO6)
        | (go_simp; go_wp2_with (go_at_call 26; (with_reducible refine (CN.out _ _ HO.out.drew).mono ?_); rintro e w5 ⟨gk, rk, rfl, hrk, hO5⟩; have HRK := Lib.hid hrk; rw [StB_app] at hO5; have HO5 := Lib.hid (Owned.third (a := rk) (b := [_]) (c := q) hO5); have c5 : w5.cell? ⟨g, 0, none⟩ = some (.slice A k c) := (Owned.cell (Owned.comm (a := rk) (b := [_]) hO5) 0).trans rfl; have g5 : g < w5.heap.size := Owned.lt (Owned.comm (a := rk) (b := [_]) hO5); clear hO5 hrk)))
      all_goals
        have HN := Lib.hid (snew_step HR.out.1 HR.out.2.1 HR.out.2.2 HRK.out HROW2.out (Owned.set HO6.out 0 (.slice (some ⟨b2, 0, none⟩) (k + 1) c2)))
        go_wp2_with fail
        go_roundw
        case rel => exact ⟨k + 1, by omega, by go_num, HN⟩
        case measure => simp [intOf]; omega
    · obtain rfl : k = m := by omega
      have HO := Lib.hid (And.intro hrow (And.intro hgl (And.intro hol (And.intro hR hO))))
      clear hrow hgl hol hR hO
      go_wp2_with fail
      go_ret
      exact ⟨g, _, rfl, ⟨_, _, _, _, rfl, ⟨HO.out.1, HO.out.2.1, HO.out.2.2.1, m1, m2, HO.out.2.2.2.1⟩⟩, HO.out.2.2.2.2⟩
end
end Go.Proofs.Ytjhoipbffadcjaa
