/- Merged texts: Arrays of sixteen counters. Contracts of layer 2's functions: all counters at once. Rows of 64-bit words as values. Plain facts: how many of a word's bits are on, as Go's own bits.OnesCount64 reckons it. -/
import Derived.Test.YtnhdjpeadhcajaaK02
import Derived.Test.YtnhdjpeadhcajaaK03
import Derived.Test.YtnhdjpeadhcajaaProg
import Derived.WalkKit
import Init
namespace Go.Proofs.Ytnhdjpeadhcajaa
open Go.RowKit NibPure Go.Sep
theorem arr_get (d : Nat → Nat) : ∀ k, k < 16 → (#[Value.int .i64 (d 0), .int .i64 (d 1), .int .i64 (d 2), .int .i64 (d 3), .int .i64 (d 4), .int .i64 (d 5), .int .i64 (d 6), .int .i64 (d 7), .int .i64 (d 8), .int .i64 (d 9), .int .i64 (d 10), .int .i64 (d 11), .int .i64 (d 12), .int .i64 (d 13), .int .i64 (d 14), .int .i64 (d 15)])[k]? = some (.int .i64 (d k))
  | 0, _ => rfl
  | 1, _ => rfl
  | 2, _ => rfl
  | 3, _ => rfl
  | 4, _ => rfl
  | 5, _ => rfl
  | 6, _ => rfl
  | 7, _ => rfl
  | 8, _ => rfl
  | 9, _ => rfl
  | 10, _ => rfl
  | 11, _ => rfl
  | 12, _ => rfl
  | 13, _ => rfl
  | 14, _ => rfl
  | 15, _ => rfl
  | n + 16, h => absurd h (by omega)
/-- the cells of an array of counters -/
def arrC (d : Nat → Nat) : Array Value := #[.int .i64 (d 0), .int .i64 (d 1), .int .i64 (d 2), .int .i64 (d 3), .int .i64 (d 4), .int .i64 (d 5), .int .i64 (d 6), .int .i64 (d 7), .int .i64 (d 8), .int .i64 (d 9), .int .i64 (d 10), .int .i64 (d 11), .int .i64 (d 12), .int .i64 (d 13), .int .i64 (d 14), .int .i64 (d 15)]
theorem arrC_get (d : Nat → Nat) (k : Nat) (hk : k < 16) : (arrC d)[k]? = some (.int .i64 (d k)) := arr_get d k hk
theorem arrC_size (d : Nat → Nat) : (arrC d).size = 16 := rfl
theorem arrC_one (d : Nat → Nat) : (arrC d).all (·.oneCell') = true := by simp [arrC, Value.oneCell']
theorem arr_eq (cur : Array Value) (d : Nat → Nat) (hs : cur.size = 16) (h : ∀ j, j < 16 → cur[j]? = some (.int .i64 (d j))) : cur = arrC d := by
  apply Array.ext_getElem?
  intro j
  by_cases hj : j < 16
  · rw [h j hj, arrC_get d j hj]
  · rw [Array.getElem?_eq_none (by omega), Array.getElem?_eq_none (by rw [arrC_size]; omega)]
theorem arr_set (d : Nat → Nat) (k n : Nat) (hk : k < 16) : (arrC d).setIfInBounds k (.int .i64 (n : Int)) = arrC (fun j => if j = k then n else d j) := by
  apply arr_eq _ _ (by rw [Array.size_setIfInBounds, arrC_size])
  intro j hj
  by_cases e : k = j
  · subst e
    rw [Array.getElem?_setIfInBounds_self_of_lt (by rw [arrC_size]; exact hk), if_pos rfl]
  · rw [Array.getElem?_setIfInBounds_ne e, if_neg (fun h => e h.symm), arrC_get d j hj]
def zeros16 : Array Value := #[.int .i64 0, .int .i64 0, .int .i64 0, .int .i64 0, .int .i64 0, .int .i64 0, .int .i64 0, .int .i64 0, .int .i64 0, .int .i64 0, .int .i64 0, .int .i64 0, .int .i64 0, .int .i64 0, .int .i64 0, .int .i64 0]
/-- a call that makes memory and tells -/
def TellsB (f : Nat) (args : Array Value) (v : Value) : Prop := ∀ w, Calls Try.prog f args w fun e w' => e = .returned v ∧ Below w.heap.size w w'
end Go.Proofs.Ytnhdjpeadhcajaa
namespace Go.Proofs.Ytnhdjpeadhcajaa
open Go.RowKit NibPure Go.Sep
/-- an array whose first k places hold the counters -/
def Filled (x k : Nat) (cur : Array Value) : Prop := cur.size = 16 ∧ ∀ j, j < k → cur[j]? = some (.int .i64 (dg x j))
end Go.Proofs.Ytnhdjpeadhcajaa
namespace Go.Proofs.Ytnhdjpeadhcajaa
open Go.RowKit
def wordsV (ws : List Nat) : List Value := ws.map (fun (w : Nat) => Value.int .u64 (w : Int))
theorem wordsV_get (ws : List Nat) (i : Nat) (h : i < ws.length) : (wordsV ws).toArray[i]? = some (.int .u64 ((ws.getD i 0 : Nat) : Int)) := by
  simp [wordsV, List.getD, h]
theorem wordsV_len (ws : List Nat) : (wordsV ws).length = ws.length := by simp [wordsV]
theorem wordsV_set (ws : List Nat) (i v : Nat) : (wordsV ws).toArray.setIfInBounds i (.int .u64 (v : Int)) = (wordsV (ws.set i v)).toArray := by simp [wordsV, List.map_set]
end Go.Proofs.Ytnhdjpeadhcajaa
namespace Pop
/-- the digits' sum to a base -/
def ds (B : Nat) : Nat → Nat → Nat
  | 0, _ => 0
  | n + 1, x => x % B + ds B n (x / B)
/-- a mask: to the base b * b each digit is b - 1 -/
def mk (b : Nat) : Nat → Nat
  | 0 => 0
  | n + 1 => (b - 1) + b * b * mk b n
/-- the digits of even places, and those of odd places added -/
def ev (b : Nat) : Nat → Nat → Nat
  | 0, _ => 0
  | n + 1, x => x % b + b * b * ev b n (x / (b * b))
def sm2 (b : Nat) : Nat → Nat → Nat
  | 0, _ => 0
  | n + 1, x => (x % b + x / b % b) + b * b * sm2 b n (x / (b * b))
theorem and_split (t x y : Nat) : x &&& y = (x % 2 ^ t &&& y % 2 ^ t) + 2 ^ t * (x / 2 ^ t &&& y / 2 ^ t) := by
  have h := Nat.mod_add_div (x &&& y) (2 ^ t)
  rw [Nat.and_mod_two_pow, Nat.and_div_two_pow] at h
  exact h.symm
theorem div_form {l d : Nat} (q : Nat) (h : l < d) : (l + d * q) / d = q := by
  rw [Nat.add_mul_div_left _ _ (by omega), Nat.div_eq_of_lt h, Nat.zero_add]
theorem mod_form {l d : Nat} (q : Nat) (h : l < d) : (l + d * q) % d = l := by
  rw [Nat.add_mul_mod_self_left, Nat.mod_eq_of_lt h]
theorem and_mk (s : Nat) : ∀ n x, x &&& mk (2 ^ s) n = ev (2 ^ s) n x
  | 0, x => by rw [mk, ev, Nat.and_zero]
  | n + 1, x => by
    have hp : 0 < 2 ^ s := Nat.pow_pos (by omega)
    have hB : (2 : Nat) ^ s * 2 ^ s = 2 ^ (s + s) := by rw [← Nat.pow_add]
    have h1 : (2 : Nat) ^ s - 1 < 2 ^ (s + s) := by
      rw [← hB]
      have := Nat.mul_le_mul_left (2 ^ s) hp
      omega
    rw [mk, ev, and_split (s + s), hB, mod_form _ h1, div_form _ h1, and_mk s n]
    rw [Nat.and_two_pow_sub_one_eq_mod, ← hB, Nat.mod_mul_right_mod]
theorem ev_sum (b : Nat) : ∀ n x, ev b n (x / b) + ev b n x = sm2 b n x
  | 0, _ => rfl
  | n + 1, x => by
    have h := ev_sum b n (x / (b * b))
    rw [ev, ev, sm2, ← h, Nat.div_div_eq_div_mul, Nat.mul_comm b (b * b), ← Nat.div_div_eq_div_mul x (b * b) b, Nat.mul_add]
    omega
theorem ds_sm2 (b : Nat) (hb : 2 ≤ b) : ∀ n x, ds (b * b) n (sm2 b n x) = ds b (n + n) x
  | 0, _ => rfl
  | n + 1, x => by
    have h1 := Nat.mod_lt x (show 0 < b by omega)
    have h2 := Nat.mod_lt (x / b) (show 0 < b by omega)
    have h3 : x % b + x / b % b < b * b := by
      have := Nat.mul_le_mul_right b hb
      omega
    rw [show n + 1 + (n + 1) = (n + n) + 1 + 1 by omega, sm2, ds, ds, ds, mod_form _ h3, div_form _ h3, ds_sm2 b hb n, Nat.div_div_eq_div_mul]
    omega
theorem sm2_le (b : Nat) (_hb : 2 ≤ b) (m : Nat) : ∀ n x, (∀ k, x / b ^ k % b ≤ m) → 2 * m < b * b → ∀ k, sm2 b n x / (b * b) ^ k % (b * b) ≤ 2 * m
  | 0, x, _, _, k => by rw [sm2, Nat.zero_div, Nat.zero_mod]; omega
  | n + 1, x, h, hm, 0 => by
    have h0 := h 0
    have h1 := h 1
    rw [Nat.pow_zero, Nat.div_one] at h0
    rw [Nat.pow_one] at h1
    rw [sm2, Nat.pow_zero, Nat.div_one, mod_form _ (by omega)]
    omega
  | n + 1, x, h, hm, k + 1 => by
    have h0 := h 0
    have h1 := h 1
    rw [Nat.pow_zero, Nat.div_one] at h0
    rw [Nat.pow_one] at h1
    rw [sm2, Nat.pow_succ, Nat.mul_comm ((b * b) ^ k), ← Nat.div_div_eq_div_mul, div_form _ (by omega)]
    refine sm2_le b _hb m n (x / (b * b)) (fun j => ?_) hm k
    have h2 := h (j + 2)
    rw [show b ^ (j + 2) = b * b * b ^ j by rw [Nat.pow_succ, Nat.pow_succ, Nat.mul_comm, ← Nat.mul_assoc, Nat.mul_comm (b * b ^ j)]; rw [Nat.mul_comm b (b * b ^ j), Nat.mul_comm b (b ^ j), Nat.mul_assoc, Nat.mul_comm]] at h2
    rw [Nat.div_div_eq_div_mul]
    exact h2
/-- without a mask on each, where no digit is above 7 -/
theorem ev_nocarry : ∀ n x, (∀ k, x / 16 ^ k % 16 ≤ 7) → ev 16 n (x / 16 + x) = sm2 16 n x
  | 0, _, _ => rfl
  | n + 1, x, h => by
    have h0 := h 0
    have h1 := h 1
    have h2 := h 2
    rw [Nat.pow_zero, Nat.div_one] at h0
    rw [Nat.pow_one] at h1
    rw [show (16 : Nat) ^ 2 = 256 from rfl] at h2
    have ih := ev_nocarry n (x / 256) (fun k => by
      have h3 := h (k + 2)
      rw [show (16 : Nat) ^ (k + 2) = 256 * 16 ^ k by rw [Nat.pow_succ, Nat.pow_succ]; omega, ← Nat.div_div_eq_div_mul] at h3
      exact h3)
    rw [ev, sm2, show (16 : Nat) * 16 = 256 from rfl, ← ih]
    have e1 : (x / 16 + x) % 16 = x % 16 + x / 16 % 16 := by omega
    have e2 : (x / 16 + x) / 256 = x / 256 / 16 + x / 256 := by
      have g1 : x = x % 16 + 16 * (x / 16 % 16) + 256 * (x / 256) := by omega
      have g2 : x / 16 = x / 16 % 16 + 16 * (x / 256) := by omega
      generalize x / 256 = y at *
      generalize x / 16 % 16 = r1 at *
      generalize x % 16 = r0 at *
      rw [g2, g1]
      clear g1 g2 ih e1 h
      omega
    rw [e1, e2]
theorem digit_le (b : Nat) (hb : 2 ≤ b) (x k : Nat) : x / b ^ k % b ≤ b - 1 := by
  have := Nat.mod_lt (x / b ^ k) (show 0 < b by omega)
  omega
theorem sm2_lt (b : Nat) (hb : 2 ≤ b) : ∀ n x, sm2 b n x < (b * b) ^ n
  | 0, _ => by rw [sm2, Nat.pow_zero]; omega
  | n + 1, x => by
    have h1 := Nat.mod_lt x (show 0 < b by omega)
    have h2 := Nat.mod_lt (x / b) (show 0 < b by omega)
    have h3 : x % b + x / b % b < b * b := by
      have := Nat.mul_le_mul_right b hb
      omega
    have h4 := Nat.mul_le_mul_left (b * b) (Nat.succ_le_of_lt (sm2_lt b hb n (x / (b * b))))
    rw [Nat.mul_succ] at h4
    rw [sm2, Nat.pow_succ, Nat.mul_comm ((b * b) ^ n)]
    omega
/-- eight bytes' sum -/
theorem bytes8 (e0 e1 e2 e3 e4 e5 e6 e7 : Nat) (h0 : e0 ≤ 8) (h1 : e1 ≤ 8) (h2 : e2 ≤ 8) (h3 : e3 ≤ 8) (h4 : e4 ≤ 8) (h5 : e5 ≤ 8) (h6 : e6 ≤ 8) (h7 : e7 ≤ 8) (y a b c : Nat)
    (hy : y = e0 + e1 * 256 + e2 * 65536 + e3 * 16777216 + e4 * 4294967296 + e5 * 1099511627776 + e6 * 281474976710656 + e7 * 72057594037927936)
    (ha : a = y + y / 256) (hb : b = a + a / 65536) (hc : c = b + b / 4294967296) : c % 128 = e0 + e1 + e2 + e3 + e4 + e5 + e6 + e7 ∧ c < 18446744073709551616 := by
  have q1 : y / 256 = e1 + e2 * 256 + e3 * 65536 + e4 * 16777216 + e5 * 4294967296 + e6 * 1099511627776 + e7 * 281474976710656 := by
    rw [show y = e0 + 256 * (e1 + e2 * 256 + e3 * 65536 + e4 * 16777216 + e5 * 4294967296 + e6 * 1099511627776 + e7 * 281474976710656) by omega]
    exact div_form _ (by omega)
  rw [q1, hy] at ha
  clear q1 hy
  have q2 : a / 65536 = (e2 + e3) + (e3 + e4) * 256 + (e4 + e5) * 65536 + (e5 + e6) * 16777216 + (e6 + e7) * 4294967296 + e7 * 1099511627776 := by
    rw [show a = (e0 + e1 + (e1 + e2) * 256) + 65536 * ((e2 + e3) + (e3 + e4) * 256 + (e4 + e5) * 65536 + (e5 + e6) * 16777216 + (e6 + e7) * 4294967296 + e7 * 1099511627776) by omega]
    exact div_form _ (by omega)
  rw [q2, ha] at hb
  clear q2 ha
  have q3 : b / 4294967296 = (e4 + e5 + e6 + e7) + (e5 + e6 + e7) * 256 + (e6 + e7) * 65536 + e7 * 16777216 := by
    rw [show b = ((e0 + e1 + e2 + e3) + (e1 + e2 + e3 + e4) * 256 + (e2 + e3 + e4 + e5) * 65536 + (e3 + e4 + e5 + e6) * 16777216) + 4294967296 * ((e4 + e5 + e6 + e7) + (e5 + e6 + e7) * 256 + (e6 + e7) * 65536 + e7 * 16777216) by omega]
    exact div_form _ (by omega)
  rw [q3, hb] at hc
  clear q3 hb
  refine ⟨?_, by omega⟩
  generalize hS : e0 + e1 + e2 + e3 + e4 + e5 + e6 + e7 = S
  obtain ⟨Q, hQ⟩ : ∃ Q, c = S + 128 * Q := ⟨(e1 + e2 + e3 + e4 + e5 + e6 + e7) * 2 + (e2 + e3 + e4 + e5 + e6 + e7) * 512 + (e3 + e4 + e5 + e6 + e7) * 131072 + (e4 + e5 + e6 + e7) * 33554432 + (e5 + e6 + e7) * 8589934592 + (e6 + e7) * 2199023255552 + e7 * 562949953421312, by omega⟩
  rw [hQ, Nat.add_mul_mod_self_left, Nat.mod_eq_of_lt (by omega)]
/-- a word out of its bytes -/
def by8 (y k : Nat) : Nat := y / 256 ^ k % 256
theorem bytes_word (y : Nat) (hy : y < 18446744073709551616) : y = by8 y 0 + by8 y 1 * 256 + by8 y 2 * 65536 + by8 y 3 * 16777216 + by8 y 4 * 4294967296 + by8 y 5 * 1099511627776 + by8 y 6 * 281474976710656 + by8 y 7 * 72057594037927936 := by
  unfold by8
  simp only [Nat.reducePow, Nat.div_one]
  omega
theorem bytes_ds (y : Nat) : ds 256 8 y = by8 y 0 + by8 y 1 + by8 y 2 + by8 y 3 + by8 y 4 + by8 y 5 + by8 y 6 + by8 y 7 := by
  have h : ∀ n x k, ds 256 n (x / 256 ^ k) = match n with | 0 => 0 | n + 1 => by8 x k + ds 256 n (x / 256 ^ (k + 1)) := by
    intro n x k
    cases n with
    | zero => rfl
    | succ n => rw [ds, Nat.div_div_eq_div_mul, ← Nat.pow_succ]; rfl
  have h0 := h 8 y 0
  rw [Nat.pow_zero, Nat.div_one] at h0
  rw [h0]
  simp only
  rw [h 7]
  simp only
  rw [h 6]
  simp only
  rw [h 5]
  simp only
  rw [h 4]
  simp only
  rw [h 3]
  simp only
  rw [h 2]
  simp only
  rw [h 1]
  simp only
  rw [h 0]
  simp only [Nat.add_zero]
  generalize by8 y 0 = e0
  generalize by8 y (0 + 1) = e1
  generalize by8 y (0 + 1 + 1) = e2
  generalize by8 y (0 + 1 + 1 + 1) = e3
  generalize by8 y (0 + 1 + 1 + 1 + 1) = e4
  generalize by8 y (0 + 1 + 1 + 1 + 1 + 1) = e5
  generalize by8 y (0 + 1 + 1 + 1 + 1 + 1 + 1) = e6
  generalize by8 y (0 + 1 + 1 + 1 + 1 + 1 + 1 + 1) = e7
  simp only [Nat.add_assoc]
theorem mk2 : mk 2 32 = 6148914691236517205 := by decide
theorem mk4 : mk 4 16 = 3689348814741910323 := by decide
theorem mk16 : mk 16 8 = 1085102592571150095 := by decide
/-- step by step, as Go reckons it -/
theorem step1 (x : Nat) : (x / 2 &&& 6148914691236517205) + (x &&& 6148914691236517205) = sm2 2 32 x := by
  rw [← mk2, show (2 : Nat) = 2 ^ 1 from rfl, and_mk 1, and_mk 1, ev_sum]
theorem step2 (x : Nat) : (x / 4 &&& 3689348814741910323) + (x &&& 3689348814741910323) = sm2 4 16 x := by
  rw [← mk4, show (4 : Nat) = 2 ^ 2 from rfl, and_mk 2, and_mk 2, ev_sum]
theorem step3 (x : Nat) (h : ∀ k, x / 16 ^ k % 16 ≤ 7) : (x / 16 + x) &&& 1085102592571150095 = sm2 16 8 x := by
  rw [← ev_nocarry 8 x h, ← mk16, show (16 : Nat) = 2 ^ 4 from rfl, and_mk 4]
theorem ones_word (x y a b c : Nat) (hy : y = sm2 16 8 (sm2 4 16 (sm2 2 32 x))) (ha : a = y + y / 256) (hb : b = a + a / 65536) (hc : c = b + b / 4294967296) :
    c % 128 = ds 2 64 x ∧ c < 18446744073709551616 := by
  have l1 : ∀ k, sm2 2 32 x / 4 ^ k % 4 ≤ 2 := sm2_le 2 (by omega) 1 32 x (fun k => digit_le 2 (by omega) x k) (by omega)
  have l2 : ∀ k, sm2 4 16 (sm2 2 32 x) / 16 ^ k % 16 ≤ 4 := sm2_le 4 (by omega) 2 16 _ l1 (by omega)
  have l3 : ∀ k, y / 256 ^ k % 256 ≤ 8 := by rw [hy]; exact sm2_le 16 (by omega) 4 8 _ l2 (by omega)
  have hyl : y < 18446744073709551616 := by
    rw [hy]; exact sm2_lt 16 (by omega) 8 _
  have hd : ds 2 64 x = ds 256 8 y := by
    rw [hy]
    have d3 := ds_sm2 16 (by omega) 8 (sm2 4 16 (sm2 2 32 x))
    have d2 := ds_sm2 4 (by omega) 16 (sm2 2 32 x)
    have d1 := ds_sm2 2 (by omega) 32 x
    exact (d3.trans (d2.trans d1)).symm
  have h := bytes8 _ _ _ _ _ _ _ _ (l3 0) (l3 1) (l3 2) (l3 3) (l3 4) (l3 5) (l3 6) (l3 7) y a b c (bytes_word y hyl) ha hb hc
  rw [hd, bytes_ds]
  exact h
theorem sm2_digits7 (x : Nat) : ∀ k, sm2 4 16 (sm2 2 32 x) / 16 ^ k % 16 ≤ 7 := fun k => by
  have l1 : ∀ k, sm2 2 32 x / 4 ^ k % 4 ≤ 2 := sm2_le 2 (by omega) 1 32 x (fun k => digit_le 2 (by omega) x k) (by omega)
  have l2 : ∀ k, sm2 4 16 (sm2 2 32 x) / 16 ^ k % 16 ≤ 4 := sm2_le 4 (by omega) 2 16 _ l1 (by omega)
  have := l2 k
  omega
end Pop
