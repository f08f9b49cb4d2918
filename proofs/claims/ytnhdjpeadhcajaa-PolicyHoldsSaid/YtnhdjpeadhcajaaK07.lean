/- Merged texts: Plain facts: bits of words in a row, and how many are on. Contracts of layer 4's functions over own memory: a door's size, its places, what is on. -/
import Derived.Test.YtnhdjpeadhcajaaK06
import Derived.Test.YtnhdjpeadhcajaaK04
import Derived.Test.YtnhdjpeadhcajaaK03
import Derived.Deep.OwnRows
import Derived.Deep.QuietTactic
import Derived.BigQuiet
import Derived.StillTailTactics
namespace DoorPure
open Pop
/-- the bits of a row of words -/
structure Words (ws : List Nat) (B : List Bool) : Prop where
  len : B.length = 64 * ws.length
  lt : ∀ i, ws.getD i 0 < 18446744073709551616
  bit : ∀ j, j < B.length → (ws.getD (j / 64) 0).testBit (j % 64) = B.getD j false
theorem Words.zero (n : Nat) : Words (List.replicate n 0) (List.replicate (64 * n) false) := by
  refine ⟨by simp, fun i => ?_, fun j hj => ?_⟩
  · simp only [List.getD, List.getElem?_replicate]
    split <;> simp
  · simp only [List.getD, List.getElem?_replicate]
    split <;> (split <;> simp)
theorem getD_set (l : List Nat) (i k : Nat) (v d : Nat) : (l.set i v).getD k d = if i = k ∧ i < l.length then v else l.getD k d := by
  simp only [List.getD, List.getElem?_set]
  by_cases h : i = k
  · subst h
    by_cases h2 : i < l.length
    · rw [if_pos rfl, if_pos h2, if_pos ⟨rfl, h2⟩]; rfl
    · rw [if_pos rfl, if_neg h2, if_neg (fun hh => h2 hh.2), List.getElem?_eq_none (by omega)]
  · rw [if_neg h, if_neg (fun hh => h hh.1)]
theorem getD_setB (l : List Bool) (i k : Nat) (v : Bool) : (l.set i v).getD k false = if i = k ∧ i < l.length then v else l.getD k false := by
  simp only [List.getD, List.getElem?_set]
  by_cases h : i = k
  · subst h
    by_cases h2 : i < l.length
    · rw [if_pos rfl, if_pos h2, if_pos ⟨rfl, h2⟩]; rfl
    · rw [if_pos rfl, if_neg h2, if_neg (fun hh => h2 hh.2), List.getElem?_eq_none (by omega)]
  · rw [if_neg h, if_neg (fun hh => h hh.1)]
/-- a bit that is turned on -/
theorem Words.on {ws : List Nat} {B : List Bool} (h : Words ws B) (j : Nat) (hj : j < B.length) : Words (ws.set (j / 64) (ws.getD (j / 64) 0 ||| 2 ^ (j % 64))) (B.set j true) := by
  have hlen := h.len
  have hp : 2 ^ (j % 64) < 2 ^ 64 := Nat.pow_lt_pow_right (by omega) (by omega)
  refine ⟨by simp [h.len], fun i => ?_, fun k hk => ?_⟩
  · rw [getD_set]
    split
    · exact Nat.or_lt_two_pow (n := 64) (h.lt _) hp
    · exact h.lt i
  · rw [List.length_set] at hk
    rw [getD_set, getD_setB]
    by_cases he : j / 64 = k / 64
    · rw [if_pos ⟨he, by omega⟩, Nat.testBit_or, Nat.testBit_two_pow, he, h.bit k hk]
      by_cases e : j = k
      · subst e; simp [hj]
      · rw [if_neg (fun hh => e hh.1)]
        have : ¬ j % 64 = k % 64 := by omega
        simp [this]
    · rw [if_neg (fun hh => he hh.1), if_neg (fun hh => he (by rw [hh.1])), h.bit k hk]
/-- how many are on -/
def cnt (B : List Bool) : Nat := B.countP (fun b => b)
def tot : List Nat → Nat
  | [] => 0
  | w :: ws => ds 2 64 w + tot ws
def bitsOf (w : Nat) : Nat → List Bool
  | 0 => []
  | n + 1 => (decide (w % 2 = 1)) :: bitsOf (w / 2) n
theorem bitsOf_len (w : Nat) : ∀ n, (bitsOf w n).length = n
  | 0 => rfl
  | n + 1 => by rw [bitsOf, List.length_cons, bitsOf_len]
theorem bitsOf_get : ∀ (n w k : Nat), k < n → (bitsOf w n).getD k false = w.testBit k
  | 0, _, _, h => by omega
  | n + 1, w, 0, _ => by
    rw [bitsOf, Nat.testBit_zero]
    rfl
  | n + 1, w, k + 1, h => by
    rw [bitsOf, Nat.testBit_succ, ← bitsOf_get n (w / 2) k (by omega)]
    rfl
theorem cnt_append (A B : List Bool) : cnt (A ++ B) = cnt A + cnt B := List.countP_append
theorem cnt_bits : ∀ (n w : Nat), cnt (bitsOf w n) = ds 2 n w
  | 0, _ => rfl
  | n + 1, w => by
    rw [bitsOf, ds, ← cnt_bits n (w / 2), cnt, cnt, List.countP_cons]
    rcases Nat.mod_two_eq_zero_or_one w with h | h <;> rw [h] <;> simp <;> omega
theorem ext_getD {A B : List Bool} (hl : A.length = B.length) (h : ∀ k, k < A.length → A.getD k false = B.getD k false) : A = B := by
  apply List.ext_getElem hl
  intro i h1 h2
  have := h i h1
  simpa [List.getD, h1, h2] using this
theorem words_tot : ∀ (ws : List Nat) (B : List Bool), Words ws B → tot ws = cnt B
  | [], B, h => by
    have : B = [] := List.eq_nil_of_length_eq_zero (by rw [h.len]; rfl)
    subst this
    rfl
  | w :: ws, B, h => by
    have hlen := h.len
    simp only [List.length_cons] at hlen
    have e : B = bitsOf w 64 ++ B.drop 64 := by
      apply ext_getD
      · rw [List.length_append, bitsOf_len, List.length_drop]; omega
      · intro k hk
        rw [← h.bit k hk]
        by_cases h64 : k < 64
        · have e1 : k / 64 = 0 := by omega
          have e2 : k % 64 = k := by omega
          rw [e1, e2, show (bitsOf w 64 ++ B.drop 64).getD k false = (bitsOf w 64).getD k false by
            simp only [List.getD]; rw [List.getElem?_append_left (by rw [bitsOf_len]; exact h64)], bitsOf_get 64 w k h64]
          rfl
        · rw [show (bitsOf w 64 ++ B.drop 64).getD k false = B.getD k false by
            simp only [List.getD]; rw [List.getElem?_append_right (by rw [bitsOf_len]; omega), bitsOf_len, List.getElem?_drop]; congr 2; omega, h.bit k hk]
    have ht : Words ws (B.drop 64) := by
      refine ⟨by rw [List.length_drop]; omega, fun i => h.lt (i + 1), fun j hj => ?_⟩
      rw [List.length_drop] at hj
      have h1 := h.bit (j + 64) (by omega)
      rw [show (j + 64) / 64 = j / 64 + 1 by omega, show (j + 64) % 64 = j % 64 by omega] at h1
      rw [show (B.drop 64).getD j false = B.getD (j + 64) false by simp only [List.getD]; rw [List.getElem?_drop]; congr 2; omega, ← h1]
      rfl
    rw [tot, words_tot ws _ ht, e, cnt_append, cnt_bits]
    congr 2
theorem cnt_le (B : List Bool) : cnt B ≤ B.length := List.countP_le_length
theorem cnt_zero (n : Nat) : cnt (List.replicate n false) = 0 := by simp [cnt]
theorem cnt_set (B : List Bool) (j : Nat) (hj : j < B.length) : cnt (B.set j true) = cnt B + if B.getD j false = true then 0 else 1 := by
  unfold cnt
  rw [List.countP_set hj]
  have e : B.getD j false = B[j] := by simp [List.getD, hj]
  rw [e]
  cases hb : B[j]
  · simp
  · have : 0 < B.countP (fun b => b) := List.countP_pos_iff.2 ⟨B[j], List.getElem_mem _, by simp [hb]⟩
    simp
    omega
end DoorPure
namespace Go.Proofs.Ytnhdjpeadhcajaa
open Go.RowKit Go.Sep DoorPure
/-- a door's own block and its words' -/
def doorB (g b : Nat) (seed : Int) (ws : List Nat) : Own :=
  [(g, .cells #[.int .i64 seed, .slice (some ⟨b, 0, none⟩) ws.length ws.length] 115 (0, 0)), (b, .cells (wordsV ws).toArray 117 (0, 0))]
theorem info3 : (Try.prog.info? 3).map (fun i => (i.zero, i.size, i.bytes)) = some (some (.int .i64 0), 1, 8) := by kernel_rfl
section
variable {g b : Nat} {seed : Int} {ws : List Nat} {w0 w : World} {F : Own}
set_option maxHeartbeats 400000 in
theorem size_calls (hn : ws.length ≤ 100000) (h : Owned w0 w (doorB g b seed ws ++ F)) :
    Calls Try.prog 82 #[.pointer (some ⟨g, 0, none⟩)] w fun e w' => e = .returned (.int .i64 (64 * (ws.length : Int))) ∧ w = w' := by
  have c1 : w.cell? ⟨g, 1, none⟩ = some (.slice (some ⟨b, 0, none⟩) ws.length ws.length) := (Owned.cell h 1).trans rfl
  clear h
  go_enter Try.func82, Try.ntmps82
  go_wp2
  go_ret
  exact ⟨rfl, rfl⟩
/-- a key's place in a row of m bits -/
def plc (seed key : Int) (row m : Nat) : Nat := idx (mixN (wd key) (wd seed)) row m
theorem plc_lt (seed key : Int) (row : Nat) {m : Nat} (hm : 1 ≤ m) : plc seed key row m < m := idx_lt _ _ _ hm
def plcs (i j : Int) : Nat → Array Value
  | 0 => #[.int .i64 0, .int .i64 0]
  | 1 => #[.int .i64 i, .int .i64 0]
  | _ => #[.int .i64 i, .int .i64 j]
set_option maxHeartbeats 800000 in
theorem places_calls (key : Int) (hn : ws.length ≤ 100000) (h : Owned w0 w (doorB g b seed ws ++ F)) :
    Calls Try.prog 64 #[.pointer (some ⟨g, 0, none⟩), .int .i64 key] w fun e w' => e = .returned (.slice (some ⟨w.heap.size, 0, none⟩) 2 2) ∧
      Owned w0 w' ((w.heap.size, .cells #[.int .i64 (plc seed key 0 (64 * ws.length)), .int .i64 (plc seed key 1 (64 * ws.length))] 3 (0, 0)) :: (doorB g b seed ws ++ F)) := by
  have c0 : w.cell? ⟨g, 0, none⟩ = some (.int .i64 seed) := (Owned.cell h 0).trans rfl
  have cm := fun w => mix_calls seed key w
  have hl := mixN_lt (wd key) (wd seed)
  have e64 : (64 * (ws.length : Int)) = ((64 * ws.length : Nat) : Int) := by omega
  unfold plc
  generalize mixN (wd key) (wd seed) = hh at *
  have ci0 := fun w => index_calls hh hl 0 (64 * (ws.length : Int)) (by omega) w
  have ci1 := fun w => index_calls hh hl 1 (64 * (ws.length : Int)) (by omega) w
  rw [e64] at ci0 ci1
  rw [← e64] at ci0 ci1
  have k0 : idx hh 0 (64 * (ws.length : Int)) = idx hh ((0 : Nat) : Int) ((64 * ws.length : Nat) : Int) := by rw [e64]; rfl
  have k1 : idx hh 1 (64 * (ws.length : Int)) = idx hh ((1 : Nat) : Int) ((64 * ws.length : Nat) : Int) := by rw [e64]; rfl
  rw [k0] at ci0
  rw [k1] at ci1
  generalize idx hh ((0 : Nat) : Int) ((64 * ws.length : Nat) : Int) = i at *
  generalize idx hh ((1 : Nat) : Int) ((64 * ws.length : Nat) : Int) = j at *
  have hO := h.alloc (.cells (plcs i j 0) 3)
  have hmk : ∀ w, (Instr.makeSlice 26 (.int .i64 2) (.int .i64 2)).run Try.prog w = .ok (.slice (some ⟨w.heap.size, 0, none⟩) 2 2) (w.alloc (.cells #[.int .i64 0, .int .i64 0] 3)) := fun w => by kernel_rfl
  have hs : ∀ W l', Owned w0 W (l' :: (doorB g b seed ws ++ F)) → Calls Try.prog 82 #[.pointer (some ⟨g, 0, none⟩)] W fun e w' => e = .returned (.int .i64 (64 * (ws.length : Int))) ∧ W = w' := fun W l' hW => size_calls hn hW.tail
  have HO := Lib.hid hO
  have HS := Lib.hid hs
  clear hs hO e64 k0 k1 h
  go_enter Try.func64, Try.ntmps64
  go_wp2_with fail
  go_at_call 80
  refine (cm _).mono ?_
  rintro e w1 ⟨rfl, rfl⟩
  go_wp2_with fail
  go_loopw [17] (fun x17 wr => ∃ k : Nat, k ≤ 2 ∧ x17 = .int .i64 k ∧ Hid (Owned w0 wr ((w.heap.size, .cells (plcs i j k) 3 (0, 0)) :: (doorB g b seed ws ++ F)))) (fun x17 _ => 2 - (intOf x17).toNat)
  case atStart => exact ⟨0, by omega, rfl, HO⟩
  case round =>
    obtain ⟨k, hk, rfl, HK⟩ := hrel
    clear HO
    have csz := HS.out _ _ HK.out
    have hlt := Owned.lt HK.out
    have hf0 := Owned.frozen HK.out 0
    have hf1 := Owned.frozen HK.out 1
    rcases (show k = 0 ∨ k = 1 ∨ k = 2 by omega) with rfl | rfl | rfl
    · have hc0 : wr.cell? ⟨w.heap.size, 0, none⟩ = some (.int .i64 0) := Owned.cell HK.out 0
      go_wp2_with fail
      go_at_call 82
      refine (csz).mono ?_
      rintro e w1 ⟨rfl, rfl⟩
      go_wp2_with fail
      go_at_call 81
      refine (ci0 _).mono ?_
      rintro e w1 ⟨rfl, rfl⟩
      go_wp2_with fail
      go_roundw
      case rel => exact ⟨1, by omega, rfl, Lib.hid (HK.out.set 0 (.int .i64 i))⟩
      case measure => simp [intOf]
    · have hc1 : wr.cell? ⟨w.heap.size, 1, none⟩ = some (.int .i64 0) := Owned.cell HK.out 1
      go_wp2_with fail
      go_at_call 82
      refine (csz).mono ?_
      rintro e w1 ⟨rfl, rfl⟩
      go_wp2_with fail
      go_at_call 81
      refine (ci1 _).mono ?_
      rintro e w1 ⟨rfl, rfl⟩
      go_wp2_with fail
      go_roundw
      case rel => exact ⟨2, by omega, rfl, Lib.hid (HK.out.set 1 (.int .i64 j))⟩
      case measure => simp [intOf]
    · go_wp2_with fail
      go_ret
      exact ⟨rfl, HK.out⟩
/-- is a bit on? -/
def bitB (ws : List Nat) (j : Nat) : Bool := (ws.getD (j / 64) 0).testBit (j % 64)
theorem bit_word (x k : Nat) (hx : x < 18446744073709551616) : bits .and .u64 ((x : Int) / 2 ^ k) 1 = ((if x.testBit k = true then 1 else 0 : Nat) : Int) := by
  have e : ((x : Int) / 2 ^ k) = ((x / 2 ^ k : Nat) : Int) := by simp
  have e1 : ((1 : Nat) : Int) = 1 := rfl
  rw [e, ← e1, and_nat (Nat.lt_of_le_of_lt (Nat.div_le_self _ _) hx) (by omega), Nat.and_two_pow_sub_one_eq_mod _ 1, Nat.testBit_eq_decide_div_mod_eq]
  rcases Nat.mod_two_eq_zero_or_one (x / 2 ^ k) with h | h <;> simp [h]
set_option maxHeartbeats 800000 in
theorem on_calls (gp i j : Nat) (hn : ws.length ≤ 100000) (hws : ∀ i, ws.getD i 0 < 18446744073709551616) (hi : i < 64 * ws.length) (hj : j < 64 * ws.length) (h : Owned w0 w ((gp, .cells #[.int .i64 i, .int .i64 j] 3 (0, 0)) :: (doorB g b seed ws ++ F))) :
    Calls Try.prog 65 #[.pointer (some ⟨g, 0, none⟩), .slice (some ⟨gp, 0, none⟩) 2 2] w fun e w' => e = .returned (.bool (bitB ws i && bitB ws j)) ∧ w = w' := by
  have c1 : w.cell? ⟨g, 1, none⟩ = some (.slice (some ⟨b, 0, none⟩) ws.length ws.length) := (Owned.cell h.tail 1).trans rfl
  have ci : w.cell? ⟨gp, 0, none⟩ = some (.int .i64 i) := Owned.cell h 0
  have cj : w.cell? ⟨gp, 1, none⟩ = some (.int .i64 j) := Owned.cell h 1
  have wi : w.cell? ⟨b, i / 64, none⟩ = some (.int .u64 ((ws.getD (i / 64) 0 : Nat) : Int)) := (Owned.cell h.tail.swap (i / 64)).trans (wordsV_get ws _ (by omega))
  have wj : w.cell? ⟨b, j / 64, none⟩ = some (.int .u64 ((ws.getD (j / 64) 0 : Nat) : Int)) := (Owned.cell h.tail.swap (j / 64)).trans (wordsV_get ws _ (by omega))
  have bi := bit_word (ws.getD (i / 64) 0) (i % 64) (hws _)
  have bj := bit_word (ws.getD (j / 64) 0) (j % 64) (hws _)
  have ei : bitB ws i = (ws.getD (i / 64) 0).testBit (i % 64) := rfl
  have ej : bitB ws j = (ws.getD (j / 64) 0).testBit (j % 64) := rfl
  rw [ei, ej]
  generalize ws.getD (i / 64) 0 = x at *
  generalize ws.getD (j / 64) 0 = y at *
  have qi : i / 64 < ws.length := by omega
  have qj : j / 64 < ws.length := by omega
  generalize x.testBit (i % 64) = p at *
  generalize y.testBit (j % 64) = q at *
  clear h ei ej hws
  cases p <;> cases q
  all_goals
    first | rw [if_pos rfl] at bi | rw [if_neg (by simp)] at bi
    first | rw [if_pos rfl] at bj | rw [if_neg (by simp)] at bj
    go_enter Try.func65, Try.ntmps65
    go_wp2_with fail
    refine wp_loop_rounds 3 ?_
    rw [rounds_succ]
    go_wp2_with fail
    try (rw [rounds_succ]; go_wp2_with fail)
    try (rw [rounds_succ]; go_wp2_with fail)
    go_ret
    exact ⟨rfl, rfl⟩
end
end Go.Proofs.Ytnhdjpeadhcajaa
