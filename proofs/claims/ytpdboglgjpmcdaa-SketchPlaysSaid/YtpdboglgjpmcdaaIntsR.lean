/- pantryref03.Ints: are two rows of numbers alike? -/
import Derived.Test.YtpdboglgjpmcdaaReads
namespace Go.Proofs.Ytpdboglgjpmcdaa
open Go.RowKit Go.Sep
def IntsPost (w : World) (b : Bool) (e : Ending) (w' : World) : Prop := e = .returned (.bool b) ∧ ∃ m, w' = w.drewN m
set_option maxHeartbeats 800000 in
theorem ints_calls (v u : Value) (la lb : List Int) (w : World) (ha : Reads w v la) (hb : Reads w u lb) :
    Calls Try.prog 27 #[v, u] w (IntsPost w (decide (la = lb))) := by
  obtain ⟨ha1, A, c, rfl, ha2⟩ := ha
  obtain ⟨hb1, B, d, rfl, hb2⟩ := hb
  by_cases hn : la.length = lb.length
  · by_cases h0 : la.length = 0
    · have e1 : la = [] := List.eq_nil_of_length_eq_zero h0
      have e2 : lb = [] := List.eq_nil_of_length_eq_zero (hn ▸ h0)
      subst e1
      subst e2
      clear ha2 hb2 h0 hn ha1 hb1
      go_enter Try.func27, Try.ntmps27
      go_wp2
      refine wp_loop_rounds 1 ?_
      rw [rounds_succ]
      go_wp2
      go_ret
      exact ⟨rfl, 0, rfl⟩
    · obtain ⟨b, o, rfl, hca⟩ := ha2 (by omega)
      obtain ⟨b', o', rfl, hcb⟩ := hb2 (by omega)
      clear ha2 hb2
      rw [← hn] at hcb
      have HA := Lib.hid hca
      have HB := Lib.hid hcb
      clear hca hcb
      have hmain : ∀ k, (∀ i, i < k → la.getD i 0 = lb.getD i 0) → k = la.length → la = lb := by
        intro k hk he
        apply List.ext_getElem hn
        intro i h1 h2
        have := hk i (by omega)
        simpa [List.getD, h1, h2] using this
      have hmain' : ∀ k, k < la.length → la.getD k 0 ≠ lb.getD k 0 → la ≠ lb := fun k _ h e => h (by rw [e])
      generalize hN : la.length = n at *
      clear hN
      rw [← hn]
      clear hn
      have H1 := Lib.hid hmain
      have H2 := Lib.hid hmain'
      clear hmain hmain'
      go_enter Try.func27, Try.ntmps27
      go_wp2
      go_loopw [5] (fun x wr => ∃ k : Nat, k ≤ n ∧ x = .int .i64 k ∧ Hid (∀ i, i < k → la.getD i 0 = lb.getD i 0) ∧ ∃ m, wr = w.drewN m) (fun x _ => n - (intOf x).toNat)
      case atStart => exact ⟨0, Nat.zero_le _, rfl, fun i hi => by omega, 0, rfl⟩
      case round =>
        obtain ⟨k, hk, rfl, hsame, m, rfl⟩ := hrel
        by_cases hlt : k < n
        · have ca := HA.out k hlt
          have cb := HB.out k (by first | exact hlt | omega)
          by_cases hd : la.getD k 0 = lb.getD k 0
          · have hd' : (la.getD k 0 != lb.getD k 0) = false := bne_eq_false_iff_eq.2 hd
            have hs2 : ∀ i, i < k + 1 → la.getD i 0 = lb.getD i 0 := fun i hi => by
              by_cases hik : i < k
              · exact hsame.out i hik
              · rw [show i = k by omega]; exact hd
            have HS := Lib.hid hs2
            clear hs2 hd hsame
            generalize la.getD k 0 = x at *
            generalize lb.getD k 0 = y at *
            go_wp2
            go_quiet (fail)
            go_wp2
            go_roundw
            case rel => exact ⟨k + 1, by omega, by go_num, HS, _, rfl⟩
            case measure => simp [intOf]; omega
          · have hd' : (la.getD k 0 != lb.getD k 0) = true := bne_iff_ne.2 hd
            have hne := Lib.hid (H2.out k hlt hd)
            clear hd
            generalize la.getD k 0 = x at *
            generalize lb.getD k 0 = y at *
            go_wp2
            go_quiet (fail)
            go_wp2
            go_ret
            exact ⟨by rw [decide_eq_false hne.out]; rfl, _, World.drewN_drewN _ _ _⟩
        · have he := H1.out k hsame.out (by omega)
          have HE := Lib.hid he
          clear he
          go_wp2
          go_ret
          exact ⟨by rw [decide_eq_true HE.out]; rfl, _, rfl⟩
  · have h1 : ((la.length : Int) != (lb.length : Int)) = true := by simp; omega
    have hne : la ≠ lb := fun e => hn (by rw [e])
    have HE := Lib.hid hne
    clear hne ha2 hb2 hn
    go_enter Try.func27, Try.ntmps27
    go_wp2
    go_ret
    exact ⟨by rw [decide_eq_false HE.out]; rfl, 0, rfl⟩
theorem ints_yes {v u : Value} {la lb : List Int} {w : World} (h : la = lb) (ha : Reads w v la) (hb : Reads w u lb) :
    Calls Try.prog 27 #[v, u] w (IntsPost w true) := by
  have := ints_calls v u la lb w ha hb
  rw [decide_eq_true h] at this
  exact this
theorem below_drewN (w : World) (m : Nat) : Below w.heap.size w (w.drewN m) := ⟨rfl, rfl, rfl, Nat.le_refl _, fun _ _ => rfl⟩
theorem ints_b {v u : Value} {la : List Int} {w : World} (ha : Reads w v la) (hb : Reads w u la) :
    Calls Try.prog 27 #[v, u] w fun e w' => e = .returned (.bool true) ∧ Below w.heap.size w w' :=
  (ints_yes rfl ha hb).mono (by rintro e w' ⟨rfl, m, rfl⟩; exact ⟨rfl, below_drewN _ _⟩)
end Go.Proofs.Ytpdboglgjpmcdaa
