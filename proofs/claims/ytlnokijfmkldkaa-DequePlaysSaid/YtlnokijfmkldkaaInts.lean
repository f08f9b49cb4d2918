/- pantryref03.Ints: are two rows of numbers alike? Rows that can be read. -/
import Derived.Test.YtlnokijfmkldkaaProg
import Derived.Test.YtlnokijfmkldkaaSep
import Derived.WalkKit
import Derived.Lib.Hide
import Derived.Deep.QuietTactic
import Derived.BigQuiet
import Derived.Deep.LoopGhost
import Derived.OpenShut
namespace Go.Proofs.Ytlnokijfmkldkaa
open Go.RowKit Go.Sep

def ints (l : List Int) : List Value := l.map (Value.int .i64)
theorem ints_get (l : List Int) (i : Nat) (h : i < l.length) : (ints l).toArray[i]? = some (.int .i64 (l.getD i 0)) := by
  simp [ints, List.getD, h]
theorem ints_one (l : List Int) : ∀ v ∈ ints l, v.oneCell' = true := ints_oneCell .i64 l
theorem ints_len (l : List Int) : (ints l).length = l.length := by simp [ints]

/-- A slice that reads as these numbers. -/
def Reads (w : World) (v : Value) (l : List Int) : Prop :=
  l.length ≤ 9223372036854775807 ∧ ∃ A c, v = .slice A l.length c ∧ (0 < l.length → ∃ b o, A = some ⟨b, o, none⟩ ∧ ∀ i, i < l.length → w.cell? ⟨b, o + i, none⟩ = some (.int .i64 (l.getD i 0)))
theorem Reads.below {w w' : World} {v : Value} {l : List Int} (h : Reads w v l) (hb : Below w.heap.size w w') : Reads w' v l := by
  obtain ⟨h1, A, c, rfl, h2⟩ := h
  refine ⟨h1, A, c, rfl, fun hp => ?_⟩
  obtain ⟨b, o, rfl, h3⟩ := h2 hp
  refine ⟨b, o, rfl, fun i hi => ?_⟩
  have h4 := h3 i hi
  rw [hb.cell (World.block_lt_of_cell? w _ h4)]
  exact h4
theorem Reads.drewN {w : World} {v : Value} {l : List Int} (h : Reads w v l) (n : Nat) : Reads (w.drewN n) v l := h.below ⟨rfl, rfl, rfl, Nat.le_refl _, fun _ _ => rfl⟩
theorem reads_of_row {w0 w : World} {e : TypeId} {v : Value} {l : List Int} {r F : Own} (hr : Row e 1 v l.length (ints l) r) (hl : l.length ≤ 9223372036854775807) (h : Owned w0 w (r ++ F)) : Reads w v l := by
  refine ⟨hl, ?_⟩
  rcases hr.2 with ⟨rfl, h0, rfl⟩ | ⟨g, cap, cur, rfl, rfl, h1, h2, h3, h4⟩
  · exact ⟨none, 0, by rw [h0], fun hp => by omega⟩
  · refine ⟨some ⟨g, 0, none⟩, cap, rfl, fun _ => ⟨g, 0, rfl, fun i hi => ?_⟩⟩
    refine (Owned.cell h _).trans ?_
    rw [Nat.mul_one] at h4
    have h5 : cur[i]? = (cur.toList.take l.length)[i]? := by rw [List.getElem?_take, if_pos hi]; simp
    rw [Nat.zero_add, h5, h4]
    simp [ints, List.getD, hi]
/-- a slice that came in -/
theorem reads_arg {w : World} {a : Option Addr} {len cap : Nat} {zs : List Int} (h : (a = none ∧ len = 0 ∧ cap = 0 ∧ zs = []) ∨
    ∃ x, a = some x ∧ len ≤ cap ∧ cap ≤ maxLen ∧ zs.length = cap ∧ (∀ i, i < zs.length → w.cell? (x.add i) = some (.int .i64 (zs.getD i 0))) ∧ ∀ n ∈ zs, (Lit.int .i64 n).wf = true) :
    Reads w (.slice a len cap) (zs.take len) ∧ (zs.take len).length = len ∧ ∀ n ∈ zs.take len, -9223372036854775808 ≤ n ∧ n ≤ 9223372036854775807 := by
  rcases h with ⟨rfl, rfl, rfl, rfl⟩ | ⟨x, rfl, h1, h2, h3, h4, h5⟩
  · exact ⟨⟨by simp, none, 0, rfl, fun hp => by simp at hp⟩, rfl, fun n hn => by simp at hn⟩
  · have hl : (zs.take len).length = len := by rw [List.length_take]; omega
    unfold maxLen at h2
    refine ⟨⟨by omega, some x, cap, by rw [hl], fun hp => ?_⟩, hl, fun n hn => ?_⟩
    · obtain ⟨b, off, rfl, hc⟩ := ints_at h4 (by omega)
      refine ⟨b, off, rfl, fun i hi => ?_⟩
      rw [hc i (by omega)]
      simp [List.getD, show i < len by omega]
    · have := bounds_i64 (h5 n (List.mem_of_mem_take hn)); omega
/-- a literal of numbers, just made -/
theorem reads_lit (w : World) (l : List Int) (t : TypeId) (hl : l.length ≤ 9223372036854775807) : Reads (w.alloc (.cells (ints l).toArray t)) (.slice (some ⟨w.heap.size, 0, none⟩) l.length l.length) l := by
  refine ⟨hl, some ⟨w.heap.size, 0, none⟩, l.length, rfl, fun _ => ⟨w.heap.size, 0, rfl, fun i hi => ?_⟩⟩
  rw [Nat.zero_add]
  simp only [World.cell?, heap_alloc_new]
  exact ints_get l i hi

def IntsPost (w : World) (b : Bool) (e : Ending) (w' : World) : Prop := e = .returned (.bool b) ∧ ∃ m, w' = w.drewN m
set_option maxHeartbeats 800000 in
theorem ints_calls (v u : Value) (la lb : List Int) (w : World) (ha : Reads w v la) (hb : Reads w u lb) :
    Calls Try.prog 19 #[v, u] w (IntsPost w (decide (la = lb))) := by
  obtain ⟨ha1, A, c, rfl, ha2⟩ := ha
  obtain ⟨hb1, B, d, rfl, hb2⟩ := hb
  by_cases hn : la.length = lb.length
  · by_cases h0 : la.length = 0
    · have e1 : la = [] := List.eq_nil_of_length_eq_zero h0
      have e2 : lb = [] := List.eq_nil_of_length_eq_zero (hn ▸ h0)
      subst e1
      subst e2
      clear ha2 hb2 h0 hn ha1 hb1
      go_enter Try.func19, Try.ntmps19
      go_wp2
      refine wp_loop_rounds 1 ?_
      rw [rounds_succ]
      go_wp2
      go_ret
      exact ⟨rfl, 0, rfl⟩
    · obtain ⟨b, o, rfl, hca⟩ := ha2 (by omega)
      obtain ⟨b', o', rfl, hcb⟩ := hb2 (by omega)
      clear ha2 hb2
      rw [← hn] at hcb
      have HA := Lib.hid hca
      have HB := Lib.hid hcb
      clear hca hcb
      have hmain : ∀ k, (∀ i, i < k → la.getD i 0 = lb.getD i 0) → k = la.length → la = lb := by
        intro k hk he
        apply List.ext_getElem hn
        intro i h1 h2
        have := hk i (by omega)
        simpa [List.getD, h1, h2] using this
      have hmain' : ∀ k, k < la.length → la.getD k 0 ≠ lb.getD k 0 → la ≠ lb := fun k _ h e => h (by rw [e])
      generalize hN : la.length = n at *
      clear hN
      rw [← hn]
      clear hn
      have H1 := Lib.hid hmain
      have H2 := Lib.hid hmain'
      clear hmain hmain'
      go_enter Try.func19, Try.ntmps19
      go_wp2
      go_loopw [5] (fun x wr => ∃ k : Nat, k ≤ n ∧ x = .int .i64 k ∧ Hid (∀ i, i < k → la.getD i 0 = lb.getD i 0) ∧ ∃ m, wr = w.drewN m) (fun x _ => n - (intOf x).toNat)
      case atStart => exact ⟨0, Nat.zero_le _, rfl, fun i hi => by omega, 0, rfl⟩
      case round =>
        obtain ⟨k, hk, rfl, hsame, m, rfl⟩ := hrel
        by_cases hlt : k < n
        · have ca := HA.out k hlt
          have cb := HB.out k (by first | exact hlt | omega)
          by_cases hd : la.getD k 0 = lb.getD k 0
          · have hd' : (la.getD k 0 != lb.getD k 0) = false := bne_eq_false_iff_eq.2 hd
            have hs2 : ∀ i, i < k + 1 → la.getD i 0 = lb.getD i 0 := fun i hi => by
              by_cases hik : i < k
              · exact hsame.out i hik
              · rw [show i = k by omega]; exact hd
            have HS := Lib.hid hs2
            clear hs2 hd hsame
            generalize la.getD k 0 = x at *
            generalize lb.getD k 0 = y at *
            go_wp2
            go_quiet (fail)
            go_wp2
            go_roundw
            case rel => exact ⟨k + 1, by omega, by go_num, HS, _, rfl⟩
            case measure => simp [intOf]; omega
          · have hd' : (la.getD k 0 != lb.getD k 0) = true := bne_iff_ne.2 hd
            have hne := Lib.hid (H2.out k hlt hd)
            clear hd
            generalize la.getD k 0 = x at *
            generalize lb.getD k 0 = y at *
            go_wp2
            go_quiet (fail)
            go_wp2
            go_ret
            exact ⟨by rw [decide_eq_false hne.out]; rfl, _, World.drewN_drewN _ _ _⟩
        · have he := H1.out k hsame.out (by omega)
          have HE := Lib.hid he
          clear he
          go_wp2
          go_ret
          exact ⟨by rw [decide_eq_true HE.out]; rfl, _, rfl⟩
  · have h1 : ((la.length : Int) != (lb.length : Int)) = true := by simp; omega
    have hne : la ≠ lb := fun e => hn (by rw [e])
    have HE := Lib.hid hne
    clear hne ha2 hb2 hn
    go_enter Try.func19, Try.ntmps19
    go_wp2
    go_ret
    exact ⟨by rw [decide_eq_false HE.out]; rfl, 0, rfl⟩
theorem ints_yes {v u : Value} {la lb : List Int} {w : World} (h : la = lb) (ha : Reads w v la) (hb : Reads w u lb) :
    Calls Try.prog 19 #[v, u] w (IntsPost w true) := by
  have := ints_calls v u la lb w ha hb
  rw [decide_eq_true h] at this
  exact this
end Go.Proofs.Ytlnokijfmkldkaa
