/- Layer 3: a key is counted. -/
import Derived.Test.YtachbhgfcdnhdaaSketch3
namespace Go.Proofs.Ytachbhgfcdnhdaa
open Go.RowKit NibPure Go.Sep
def inN (x m : Nat) : Nat := if dg x m < 15 then st x m (dg x m + 1) else x
theorem inN_lt (x : Nat) (hx : x < 18446744073709551616) (m : Nat) (hm : m < 16) : inN x m < 18446744073709551616 := by
  unfold inN
  split
  · exact st_lt (m := 16) hx hm (by omega)
  · exact hx
theorem inN_calls (x : Nat) (hx : x < 18446744073709551616) (m : Nat) (hm : m < 16) : Tells 36 #[.int .u64 x, .int .i64 m] (.tuple #[.int .u64 (inN x m), .bool (decide (dg x m < 15))]) := by
  unfold inN
  by_cases hd : dg x m < 15
  · rw [if_pos hd, decide_eq_true hd]; exact inc_in x hx m hm hd
  · rw [if_neg hd, decide_eq_false hd]; exact inc_full x hx m hm (by have := dg_lt x m; omega)
theorem inN_dg (x m j : Nat) : dg (inN x m) j = if j = m then min (dg x m + 1) 15 else dg x j := by
  have hl := dg_lt x m
  unfold inN
  split
  · rw [dg_st x m j (by omega)]
    split <;> omega
  · split
    · next e => subst e; omega
    · rfl
def anyS (S : Nat → Nat → Nat) (p : Nat → Nat) : Nat → Bool
  | 0 => false
  | k + 1 => anyS S p k || decide (S k (p k) < 15)
/-- the counters behind an add -/
def addS (S : Nat → Nat → Nat) (p : Nat → Nat) (K i c : Nat) : Nat := if i < K ∧ c = p i then min (S i c + 1) 15 else S i c
section
variable {g n N : Nat} {seed : Int} {rb : Nat → Nat} {rw : Nat → List Nat} {w0 w : World} {F : Own}
def AddRel (w0 : World) (F : Own) (g n N : Nat) (seed : Int) (rb : Nat → Nat) (rw : Nat → List Nat) (p : Nat → Nat) (k : Nat) (w : World) : Prop :=
  ∃ rw', Owned w0 w (skB g seed n N rb rw' ++ F) ∧ Rows n rw' ∧ ∀ i c, i < 4 → c < 16 * n → cS rw' i c = addS (cS rw) p k i c
theorem AddRel.step {p : Nat → Nat} {k : Nat} {rw' : Nat → List Nat} (hk : k < 4) (hp : p k < 16 * n) (hO : Owned w0 w (skB g seed n N rb rw' ++ F)) (hR : Rows n rw') (hv : ∀ i c, i < 4 → c < 16 * n → cS rw' i c = addS (cS rw) p k i c) :
    AddRel w0 F g n N seed rb rw p (k + 1) (w.setCell ⟨rb k, p k / 16, none⟩ (.int .u64 ((inN ((rw' k).getD (p k / 16) 0) (p k % 16) : Nat) : Int))) := by
  refine ⟨_, sk_set hO hk _ _, hR.upd k _ _ (inN_lt _ (hR.lt _ _) _ (by omega)), fun i c hi hc => ?_⟩
  have h0 := hv i c hi hc
  unfold addS at *
  show dg ((upd rw' k (p k / 16) _ i).getD (c / 16) 0) (c % 16) = _
  rw [upd_get hR hk (show p k / 16 < n by omega)]
  by_cases e : i = k ∧ c / 16 = p k / 16
  · obtain ⟨rfl, e2⟩ := e
    rw [if_pos ⟨rfl, e2⟩, inN_dg]
    by_cases e3 : c % 16 = p i % 16
    · have e4 : c = p i := by omega
      rw [if_pos e3, if_pos ⟨by omega, e4⟩]
      rw [if_neg (by omega)] at h0
      rw [← h0, e4]
      rfl
    · rw [if_neg e3, if_neg (fun h => e3 (by rw [h.2]))]
      rw [if_neg (by omega)] at h0
      rw [← h0, ← e2]
      rfl
  · rw [if_neg e]
    show cS rw' i c = _
    rw [h0]
    by_cases e5 : i < k ∧ c = p i
    · rw [if_pos e5, if_pos ⟨by omega, e5.2⟩]
    · rw [if_neg e5, if_neg (fun h => e ⟨by
        have : ¬ i < k := fun h2 => e5 ⟨h2, h.2⟩
        omega, by
        have : ¬ i < k := fun h2 => e5 ⟨h2, h.2⟩
        have e6 : i = k := by omega
        rw [h.2, e6]⟩)]
end
end Go.Proofs.Ytachbhgfcdnhdaa
