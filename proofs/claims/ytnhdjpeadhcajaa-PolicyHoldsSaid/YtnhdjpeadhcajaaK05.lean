/- Merged texts: What mix.Ceil and mix.power tell: the least power of two that is as great, between two powers of two. pantryref03.Ints: are two rows of numbers alike? Rows that can be read. Rows of numbers that can be read. -/
import Derived.Test.YtnhdjpeadhcajaaProg
import Derived.WalkKit
import Derived.Lib.Hide
import Derived.Laws.BitsAllLaws
import Derived.Deep.LoopGhost
import Derived.Test.YtnhdjpeadhcajaaK03
import Derived.Deep.QuietTactic
import Derived.BigQuiet
import Derived.OpenShut
namespace Go.Proofs.Ytnhdjpeadhcajaa
open Go.RowKit

/-- the least power of two that is n, from 2^i on, 2^(i+d) at most: its exponent -/
def up (n : Int) (i : Nat) : Nat → Nat
  | 0 => i
  | d + 1 => if (2 ^ i : Int) < n then up n (i + 1) d else i
theorem up_le (n : Int) : ∀ d i, i ≤ up n i d ∧ up n i d ≤ i + d
  | 0, i => by simp [up]
  | d + 1, i => by
    unfold up
    split
    · have := up_le n d (i + 1); omega
    · omega
theorem up_least (n : Int) : ∀ d i, up n i d = i ∨ (2 ^ (up n i d - 1) : Int) < n
  | 0, i => .inl rfl
  | d + 1, i => by
    unfold up
    split
    · rcases up_least n d (i + 1) with h | h
      · rw [h]; exact .inr (by simpa using ‹(2 ^ i : Int) < n›)
      · exact .inr h
    · exact .inl rfl
theorem up_most (n : Int) : ∀ d i, n ≤ (2 ^ (up n i d) : Int) ∨ up n i d = i + d
  | 0, i => .inr rfl
  | d + 1, i => by
    unfold up
    split
    · rcases up_most n d (i + 1) with h | h
      · exact .inl h
      · exact .inr (by omega)
    · exact .inl (by omega)
theorem pow_lt {i m : Nat} (hm : i ≤ m) (h : m ≤ 61) : (1 : Int) ≤ 2 ^ i ∧ (2 : Int) ^ i ≤ 2305843009213693952 := by
  have h1 : 1 ≤ 2 ^ i := Nat.one_le_two_pow
  have h2 : 2 ^ i ≤ 2 ^ 61 := Nat.pow_le_pow_right (by omega) (by omega)
  have h3 : ((2 ^ i : Nat) : Int) = (2 : Int) ^ i := by simp
  omega
theorem and_pow (j : Nat) (h : j ≤ 61) : bits .and .i64 ((2 : Int) ^ j) ((2 : Int) ^ j - 1) = 0 := by
  have h3 : (2 : Int) ^ j = ((2 ^ j : Nat) : Int) := by simp
  have h1 : 1 ≤ 2 ^ j := Nat.one_le_two_pow
  have h2 : 2 ^ j ≤ 2 ^ 61 := Nat.pow_le_pow_right (by omega) h
  have e : ((2 ^ j : Nat) : Int) - 1 = ((2 ^ j - 1 : Nat) : Int) := by omega
  rw [h3, e]
  show IntKind.i64.wrap ((BitVec.ofInt 64 ((2 ^ j : Nat) : Int) &&& BitVec.ofInt 64 ((2 ^ j - 1 : Nat) : Int)).toNat : Int) = _
  rw [BitVec.toNat_and, BitVec.ofInt_natCast, BitVec.ofInt_natCast, BitVec.toNat_ofNat, BitVec.toNat_ofNat, Nat.mod_eq_of_lt (a := 2 ^ j) (by omega), Nat.mod_eq_of_lt (a := 2 ^ j - 1) (by omega), Nat.and_two_pow_sub_one_eq_mod, Nat.mod_self]
  decide

/-- a power of two, kept from the walk -/
def P2 (j : Nat) : Int := 2 ^ j
theorem P2_bd {j : Nat} (h : j ≤ 61) : 1 ≤ P2 j ∧ P2 j ≤ 2305843009213693952 := pow_lt (Nat.le_refl j) h
theorem P2_succ (j : Nat) : P2 (j + 1) = P2 j * 2 := by unfold P2; rw [Int.pow_succ]
theorem P2_mono {a m : Nat} (h : a ≤ m) : P2 a ≤ P2 m := by
  have := Nat.pow_le_pow_right (n := 2) (by omega) h
  have h1 : ((2 ^ a : Nat) : Int) = (2 : Int) ^ a := by simp
  have h2 : ((2 ^ m : Nat) : Int) = (2 : Int) ^ m := by simp
  unfold P2
  omega
theorem P2_lt {a m : Nat} (h : P2 a < P2 m) : a < m := by
  rcases Nat.lt_or_ge a m with h1 | h1
  · exact h1
  · have := P2_mono h1; omega
theorem P2_nat (j : Nat) : P2 j = ((2 ^ j : Nat) : Int) := by unfold P2; simp

set_option maxHeartbeats 400000 in
theorem power_calls (j : Nat) (hj : j ≤ 61) (w : World) : Calls Try.prog 79 #[.int .i64 (P2 j)] w fun e w' => e = .returned (.bool true) ∧ w = w' := by
  have hp := P2_bd hj
  have ha : bits .and .i64 (P2 j) (P2 j - 1) = 0 := and_pow j hj
  have hgt : decide ((0 : Int) < P2 j) = true := decide_eq_true (by omega)
  generalize P2 j = P at *
  have ha' : (bits .and .i64 P (P - 1) == 0) = true := by rw [ha]; rfl
  clear ha
  obtain ⟨hp1, hp2⟩ := hp
  go_enter Try.func79, Try.ntmps79
  go_wp2
  go_ret
  exact ⟨rfl, rfl⟩

theorem up_step {n : Int} {i m : Nat} (h : P2 i < n) (him : i < m) : up n i (m - i) = up n (i + 1) (m - (i + 1)) := by
  obtain ⟨d, hd⟩ : ∃ d, m - i = d + 1 := ⟨m - i - 1, by omega⟩
  rw [hd, up, if_pos (show (2 ^ i : Int) < n from h), show m - (i + 1) = d by omega]
theorem up_stay {n : Int} {i m : Nat} (h : ¬ P2 i < n) : up n i (m - i) = i := by
  generalize m - i = d
  cases d with
  | zero => rfl
  | succ d => rw [up, if_neg (show ¬ (2 ^ i : Int) < n from h)]

set_option maxHeartbeats 400000 in
theorem ceil_calls (n A M : Int) (a m : Nat) (hA : A = P2 a) (hM : M = P2 m) (ham : a ≤ m) (hm : m ≤ 61) (w : World) :
    Calls Try.prog 63 #[.int .i64 n, .int .i64 A, .int .i64 M] w fun e w' => e = .returned (.int .i64 (P2 (up n a (m - a)))) ∧ w = w' := by
  subst hA
  subst hM
  have ca := fun w => power_calls a (by omega) w
  have cm := fun w => power_calls m (by omega) w
  have hle : P2 a ≤ P2 m := P2_mono ham
  have hA := P2_bd (show a ≤ 61 by omega)
  have hM := P2_bd hm
  obtain ⟨hA1, hA2⟩ := hA
  obtain ⟨hM1, hM2⟩ := hM
  go_enter Try.func63, Try.ntmps63
  go_wp2_with (first | (go_at_call 79; (with_reducible refine (ca _).mono ?_); rintro e w' ⟨rfl, rfl⟩) | (go_at_call 79; (with_reducible refine (cm _).mono ?_); rintro e w' ⟨rfl, rfl⟩))
  clear ca cm
  go_loop [7] (fun x => ∃ i : Nat, a ≤ i ∧ i ≤ m ∧ x = .int .i64 (P2 i) ∧ Hid (up n i (m - i) = up n a (m - a))) (fun x => (P2 m - intOf x).toNat)
  case atStart => exact ⟨a, Nat.le_refl _, ham, rfl, rfl⟩
  case round =>
    obtain ⟨i, hi1, hi2, rfl, hu⟩ := hrel
    have hb := P2_bd (show i ≤ 61 by omega)
    obtain ⟨hb1, hb2⟩ := hb
    by_cases h1 : P2 i < n
    · by_cases h2 : P2 i < P2 m
      · have hlt := P2_lt h2
        have hs := Lib.hid (P2_succ i)
        go_wp2
        go_round
        case rel => exact ⟨i + 1, by omega, by omega, by rw [hs.out], by rw [Hid, ← up_step h1 hlt]; exact hu⟩
        case measure => simp [intOf]; omega
      · have him : i = m := by
          rcases Nat.lt_or_ge i m with h | h
          · have := P2_mono (show i + 1 ≤ m by omega)
            have := P2_succ i
            omega
          · omega
        have hu' := Lib.hid him
        clear him
        go_wp2
        go_ret
        have hr : i = up n a (m - a) := by
          have h3 := hu.out
          rw [hu'.out, Nat.sub_self, up] at h3
          rw [hu'.out]
          exact h3
        exact ⟨by rw [← hr]; rfl, rfl⟩
    · go_wp2
      go_ret
      have hr : i = up n a (m - a) := by
        have h3 := hu.out
        rw [up_stay (by omega)] at h3
        exact h3
      exact ⟨by rw [← hr]; rfl, rfl⟩
end Go.Proofs.Ytnhdjpeadhcajaa
namespace Go.Proofs.Ytnhdjpeadhcajaa
open Go.RowKit Go.Sep

def ints (l : List Int) : List Value := l.map (Value.int .i64)
theorem ints_get (l : List Int) (i : Nat) (h : i < l.length) : (ints l).toArray[i]? = some (.int .i64 (l.getD i 0)) := by
  simp [ints, List.getD, h]
theorem ints_one (l : List Int) : ∀ v ∈ ints l, v.oneCell' = true := ints_oneCell .i64 l
theorem ints_len (l : List Int) : (ints l).length = l.length := by simp [ints]

/-- A slice that reads as these numbers. -/
def Reads (w : World) (v : Value) (l : List Int) : Prop :=
  l.length ≤ 9223372036854775807 ∧ ∃ A c, v = .slice A l.length c ∧ (0 < l.length → ∃ b o, A = some ⟨b, o, none⟩ ∧ ∀ i, i < l.length → w.cell? ⟨b, o + i, none⟩ = some (.int .i64 (l.getD i 0)))
theorem Reads.below {w w' : World} {v : Value} {l : List Int} (h : Reads w v l) (hb : Below w.heap.size w w') : Reads w' v l := by
  obtain ⟨h1, A, c, rfl, h2⟩ := h
  refine ⟨h1, A, c, rfl, fun hp => ?_⟩
  obtain ⟨b, o, rfl, h3⟩ := h2 hp
  refine ⟨b, o, rfl, fun i hi => ?_⟩
  have h4 := h3 i hi
  rw [hb.cell (World.block_lt_of_cell? w _ h4)]
  exact h4
theorem Reads.drewN {w : World} {v : Value} {l : List Int} (h : Reads w v l) (n : Nat) : Reads (w.drewN n) v l := h.below ⟨rfl, rfl, rfl, Nat.le_refl _, fun _ _ => rfl⟩
theorem reads_of_row {w0 w : World} {e : TypeId} {v : Value} {l : List Int} {r F : Own} (hr : Row e 1 v l.length (ints l) r) (hl : l.length ≤ 9223372036854775807) (h : Owned w0 w (r ++ F)) : Reads w v l := by
  refine ⟨hl, ?_⟩
  rcases hr.2 with ⟨rfl, h0, rfl⟩ | ⟨g, cap, cur, rfl, rfl, h1, h2, h3, h4⟩
  · exact ⟨none, 0, by rw [h0], fun hp => by omega⟩
  · refine ⟨some ⟨g, 0, none⟩, cap, rfl, fun _ => ⟨g, 0, rfl, fun i hi => ?_⟩⟩
    refine (Owned.cell h _).trans ?_
    rw [Nat.mul_one] at h4
    have h5 : cur[i]? = (cur.toList.take l.length)[i]? := by rw [List.getElem?_take, if_pos hi]; simp
    rw [Nat.zero_add, h5, h4]
    simp [ints, List.getD, hi]
/-- a slice that came in -/
theorem reads_arg {w : World} {a : Option Addr} {len cap : Nat} {zs : List Int} (h : (a = none ∧ len = 0 ∧ cap = 0 ∧ zs = []) ∨
    ∃ x, a = some x ∧ len ≤ cap ∧ cap ≤ maxLen ∧ zs.length = cap ∧ (∀ i, i < zs.length → w.cell? (x.add i) = some (.int .i64 (zs.getD i 0))) ∧ ∀ n ∈ zs, (Lit.int .i64 n).wf = true) :
    Reads w (.slice a len cap) (zs.take len) ∧ (zs.take len).length = len ∧ ∀ n ∈ zs.take len, -9223372036854775808 ≤ n ∧ n ≤ 9223372036854775807 := by
  rcases h with ⟨rfl, rfl, rfl, rfl⟩ | ⟨x, rfl, h1, h2, h3, h4, h5⟩
  · exact ⟨⟨by simp, none, 0, rfl, fun hp => by simp at hp⟩, rfl, fun n hn => by simp at hn⟩
  · have hl : (zs.take len).length = len := by rw [List.length_take]; omega
    unfold maxLen at h2
    refine ⟨⟨by omega, some x, cap, by rw [hl], fun hp => ?_⟩, hl, fun n hn => ?_⟩
    · obtain ⟨b, off, rfl, hc⟩ := ints_at h4 (by omega)
      refine ⟨b, off, rfl, fun i hi => ?_⟩
      rw [hc i (by omega)]
      simp [List.getD, show i < len by omega]
    · have := bounds_i64 (h5 n (List.mem_of_mem_take hn)); omega
/-- a literal of numbers, just made -/
theorem reads_lit (w : World) (l : List Int) (t : TypeId) (hl : l.length ≤ 9223372036854775807) : Reads (w.alloc (.cells (ints l).toArray t)) (.slice (some ⟨w.heap.size, 0, none⟩) l.length l.length) l := by
  refine ⟨hl, some ⟨w.heap.size, 0, none⟩, l.length, rfl, fun _ => ⟨w.heap.size, 0, rfl, fun i hi => ?_⟩⟩
  rw [Nat.zero_add]
  simp only [World.cell?, heap_alloc_new]
  exact ints_get l i hi

def IntsPost (w : World) (b : Bool) (e : Ending) (w' : World) : Prop := e = .returned (.bool b) ∧ ∃ m, w' = w.drewN m
set_option maxHeartbeats 800000 in
theorem ints_calls (v u : Value) (la lb : List Int) (w : World) (ha : Reads w v la) (hb : Reads w u lb) :
    Calls Try.prog 15 #[v, u] w (IntsPost w (decide (la = lb))) := by
  obtain ⟨ha1, A, c, rfl, ha2⟩ := ha
  obtain ⟨hb1, B, d, rfl, hb2⟩ := hb
  by_cases hn : la.length = lb.length
  · by_cases h0 : la.length = 0
    · have e1 : la = [] := List.eq_nil_of_length_eq_zero h0
      have e2 : lb = [] := List.eq_nil_of_length_eq_zero (hn ▸ h0)
      subst e1
      subst e2
      clear ha2 hb2 h0 hn ha1 hb1
      go_enter Try.func15, Try.ntmps15
      go_wp2
      refine wp_loop_rounds 1 ?_
      rw [rounds_succ]
      go_wp2
      go_ret
      exact ⟨rfl, 0, rfl⟩
    · obtain ⟨b, o, rfl, hca⟩ := ha2 (by omega)
      obtain ⟨b', o', rfl, hcb⟩ := hb2 (by omega)
      clear ha2 hb2
      rw [← hn] at hcb
      have HA := Lib.hid hca
      have HB := Lib.hid hcb
      clear hca hcb
      have hmain : ∀ k, (∀ i, i < k → la.getD i 0 = lb.getD i 0) → k = la.length → la = lb := by
        intro k hk he
        apply List.ext_getElem hn
        intro i h1 h2
        have := hk i (by omega)
        simpa [List.getD, h1, h2] using this
      have hmain' : ∀ k, k < la.length → la.getD k 0 ≠ lb.getD k 0 → la ≠ lb := fun k _ h e => h (by rw [e])
      generalize hN : la.length = n at *
      clear hN
      rw [← hn]
      clear hn
      have H1 := Lib.hid hmain
      have H2 := Lib.hid hmain'
      clear hmain hmain'
      go_enter Try.func15, Try.ntmps15
      go_wp2
      go_loopw [5] (fun x wr => ∃ k : Nat, k ≤ n ∧ x = .int .i64 k ∧ Hid (∀ i, i < k → la.getD i 0 = lb.getD i 0) ∧ ∃ m, wr = w.drewN m) (fun x _ => n - (intOf x).toNat)
      case atStart => exact ⟨0, Nat.zero_le _, rfl, fun i hi => by omega, 0, rfl⟩
      case round =>
        obtain ⟨k, hk, rfl, hsame, m, rfl⟩ := hrel
        by_cases hlt : k < n
        · have ca := HA.out k hlt
          have cb := HB.out k (by first | exact hlt | omega)
          by_cases hd : la.getD k 0 = lb.getD k 0
          · have hd' : (la.getD k 0 != lb.getD k 0) = false := bne_eq_false_iff_eq.2 hd
            have hs2 : ∀ i, i < k + 1 → la.getD i 0 = lb.getD i 0 := fun i hi => by
              by_cases hik : i < k
              · exact hsame.out i hik
              · rw [show i = k by omega]; exact hd
            have HS := Lib.hid hs2
            clear hs2 hd hsame
            generalize la.getD k 0 = x at *
            generalize lb.getD k 0 = y at *
            go_wp2
            go_quiet (fail)
            go_wp2
            go_roundw
            case rel => exact ⟨k + 1, by omega, by go_num, HS, _, rfl⟩
            case measure => simp [intOf]; omega
          · have hd' : (la.getD k 0 != lb.getD k 0) = true := bne_iff_ne.2 hd
            have hne := Lib.hid (H2.out k hlt hd)
            clear hd
            generalize la.getD k 0 = x at *
            generalize lb.getD k 0 = y at *
            go_wp2
            go_quiet (fail)
            go_wp2
            go_ret
            exact ⟨by rw [decide_eq_false hne.out]; rfl, _, World.drewN_drewN _ _ _⟩
        · have he := H1.out k hsame.out (by omega)
          have HE := Lib.hid he
          clear he
          go_wp2
          go_ret
          exact ⟨by rw [decide_eq_true HE.out]; rfl, _, rfl⟩
  · have h1 : ((la.length : Int) != (lb.length : Int)) = true := by simp; omega
    have hne : la ≠ lb := fun e => hn (by rw [e])
    have HE := Lib.hid hne
    clear hne ha2 hb2 hn
    go_enter Try.func15, Try.ntmps15
    go_wp2
    go_ret
    exact ⟨by rw [decide_eq_false HE.out]; rfl, 0, rfl⟩
theorem ints_yes {v u : Value} {la lb : List Int} {w : World} (h : la = lb) (ha : Reads w v la) (hb : Reads w u lb) :
    Calls Try.prog 15 #[v, u] w (IntsPost w true) := by
  have := ints_calls v u la lb w ha hb
  rw [decide_eq_true h] at this
  exact this
end Go.Proofs.Ytnhdjpeadhcajaa

