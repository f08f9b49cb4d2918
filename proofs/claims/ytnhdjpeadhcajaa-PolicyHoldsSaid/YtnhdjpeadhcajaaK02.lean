/- Merged texts: Contracts of layer 2's functions: counters in a word. -/
import Derived.Test.YtnhdjpeadhcajaaK01
import Derived.Deep.QuietTactic
import Derived.BigQuiet
namespace Go.Proofs.Ytnhdjpeadhcajaa
open Go.RowKit NibPure
/-- .. and may draw -/
def TellsD (f : Nat) (args : Array Value) (v : Value) : Prop := ∀ w, Calls Try.prog f args w fun e w' => e = .returned v ∧ ∃ m, w' = w.drewN m
theorem place_in (i : Nat) (hi : i < 16) : Tells 83 #[.int .i64 i] (.tuple #[.int .i64 (4 * (i : Int)), .bool true]) := by
  intro w
  have hd : decide ((i : Int) < 16) = true := decide_eq_true (by omega)
  go_enter Try.func83, Try.ntmps83
  go_wp2
  refine bodyPost_ret (v := .tuple #[.int .i64 (4 * (i : Int)), .bool true]) (by simp [results, Try.results83, go_sem]) rfl ⟨rfl, rfl⟩
theorem place_out (i : Int) (hi : i < 0 ∨ 0 ≤ i ∧ 16 ≤ i) : Tells 83 #[.int .i64 i] (.tuple #[.int .i64 (wrap64 (4 * i)), .bool false]) := by
  intro w
  rcases hi with hi | ⟨h1, h2⟩
  · go_enter Try.func83, Try.ntmps83
    go_wp2
    refine bodyPost_ret (v := .tuple #[.int .i64 (wrap64 (4 * i)), .bool false]) (by simp [results, Try.results83, go_sem]) rfl ⟨rfl, rfl⟩
  · have hd : decide (i < 16) = false := decide_eq_false (by omega)
    go_enter Try.func83, Try.ntmps83
    go_wp2
    refine bodyPost_ret (v := .tuple #[.int .i64 (wrap64 (4 * i)), .bool false]) (by simp [results, Try.results83, go_sem]) rfl ⟨rfl, rfl⟩
theorem get_word (x i : Nat) (hx : x < 18446744073709551616) : wrap64 (bits .and .u64 ((x : Int) / 2 ^ (4 * i)) 15) = (dg x i : Int) := by
  have e : ((x : Int) / 2 ^ (4 * i)) = ((x / 2 ^ (4 * i) : Nat) : Int) := by simp
  have e1 : ((15 : Nat) : Int) = 15 := rfl
  rw [e, ← e1, and_nat (Nat.lt_of_le_of_lt (Nat.div_le_self _ _) hx) (by omega), get_bits, wrap64]
  have := dg_lt x i
  omega
theorem get_in (x : Nat) (hx : x < 18446744073709551616) (i : Nat) (hi : i < 16) : Tells 78 #[.int .u64 x, .int .i64 i] (.int .i64 (dg x i)) := by
  intro w
  have c1 := place_in i hi
  have HG := Lib.hid (get_word x i hx)
  go_enter Try.func78, Try.ntmps78
  go_wp2_with fail
  go_at_call 83
  refine (c1 _).mono ?_
  rintro e w1 ⟨rfl, rfl⟩
  go_wp2_with fail
  go_ret
  exact ⟨by rw [← HG.out]; rfl, rfl⟩
theorem get_out (x : Nat) (i : Int) (hi : i < 0 ∨ 0 ≤ i ∧ 16 ≤ i) : Tells 78 #[.int .u64 x, .int .i64 i] (.int .i64 0) := by
  intro w
  have c1 := place_out i hi
  clear hi
  go_enter Try.func78, Try.ntmps78
  go_wp2_with fail
  go_at_call 83
  refine (c1 _).mono ?_
  rintro e w1 ⟨rfl, rfl⟩
  go_wp2_with fail
  go_ret
  exact ⟨rfl, rfl⟩
theorem inc_word (x i : Nat) (hx : x < 18446744073709551616) (hi : i < 16) (hd : dg x i < 15) : IntKind.u64.wrap ((x : Int) + IntKind.u64.wrap (2 ^ (4 * i))) = (st x i (dg x i + 1) : Int) := by
  have h1 := Nat.pow_le_pow_right (n := 16) (by omega) (show i ≤ 15 by omega)
  have e : ((2 : Int) ^ (4 * i)) = ((16 ^ i : Nat) : Int) := by rw [show (16 : Nat) ^ i = 2 ^ (4 * i) by rw [Nat.pow_mul]]; simp
  have h2 := st_lt (m := 16) hx hi (show dg x i + 1 < 16 by omega)
  have h3 := inc_st x i
  rw [e, wrap_nat, Nat.mod_eq_of_lt (by omega), ← Int.natCast_add, wrap_nat, h3, Nat.mod_eq_of_lt h2]
theorem inc_in (x : Nat) (hx : x < 18446744073709551616) (i : Nat) (hi : i < 16) (hd : dg x i < 15) : Tells 67 #[.int .u64 x, .int .i64 i] (.tuple #[.int .u64 (st x i (dg x i + 1)), .bool true]) := by
  intro w
  have c1 := place_in i hi
  have c2 := get_in x hx i hi
  have hw := inc_word x i hx hi hd
  have hne : ((dg x i : Int) == 15) = false := by simp only [beq_eq_false_iff_ne, ne_eq]; omega
  generalize dg x i = d at *
  generalize st x i (d + 1) = s at *
  go_enter Try.func67, Try.ntmps67
  go_wp2_with fail
  go_at_call 83
  refine (c1 _).mono ?_
  rintro e w1 ⟨rfl, rfl⟩
  go_wp2_with fail
  go_at_call 78
  refine (c2 _).mono ?_
  rintro e w1 ⟨rfl, rfl⟩
  go_wp2_with fail
  refine bodyPost_ret (v := .tuple #[.int .u64 s, .bool true]) (by simp [results, Try.results67, go_sem]) rfl ⟨rfl, rfl⟩
theorem inc_full (x : Nat) (hx : x < 18446744073709551616) (i : Nat) (hi : i < 16) (hd : dg x i = 15) : Tells 67 #[.int .u64 x, .int .i64 i] (.tuple #[.int .u64 x, .bool false]) := by
  intro w
  have c1 := place_in i hi
  have c2 := get_in x hx i hi
  rw [hd] at c2
  clear hd
  go_enter Try.func67, Try.ntmps67
  go_wp2_with fail
  go_at_call 83
  refine (c1 _).mono ?_
  rintro e w1 ⟨rfl, rfl⟩
  go_wp2_with fail
  go_at_call 78
  refine (c2 _).mono ?_
  rintro e w1 ⟨rfl, rfl⟩
  go_wp2_with fail
  refine bodyPost_ret (v := .tuple #[.int .u64 x, .bool false]) (by simp [results, Try.results67, go_sem]) rfl ⟨rfl, rfl⟩
theorem inc_out (x : Nat) (i : Int) (hi : i < 0 ∨ 0 ≤ i ∧ 16 ≤ i) : Tells 67 #[.int .u64 x, .int .i64 i] (.tuple #[.int .u64 x, .bool false]) := by
  intro w
  have c1 := place_out i hi
  clear hi
  go_enter Try.func67, Try.ntmps67
  go_wp2_with fail
  go_at_call 83
  refine (c1 _).mono ?_
  rintro e w1 ⟨rfl, rfl⟩
  go_wp2_with fail
  refine bodyPost_ret (v := .tuple #[.int .u64 x, .bool false]) (by simp [results, Try.results67, go_sem]) rfl ⟨rfl, rfl⟩
theorem set_word (x i m : Nat) (hx : x < 18446744073709551616) (hi : i < 16) (hm : m < 16) :
    bits .or .u64 (bits .andNot .u64 (x : Int) (IntKind.u64.wrap (15 * 2 ^ (4 * i)))) (IntKind.u64.wrap ((m : Int) * 2 ^ (4 * i))) = (st x i m : Int) := by
  have h1 := Nat.pow_le_pow_right (n := 16) (by omega) (show i ≤ 15 by omega)
  have e : ((2 : Int) ^ (4 * i)) = ((16 ^ i : Nat) : Int) := by rw [show (16 : Nat) ^ i = 2 ^ (4 * i) by rw [Nat.pow_mul]]; simp
  have h4 : m * 16 ^ i < 18446744073709551616 := by
    have h4 := Nat.mul_le_mul (show m ≤ 15 by omega) h1
    omega
  have h5 : 15 * 16 ^ i < 18446744073709551616 := by omega
  have e15 : (15 : Int) * ((16 ^ i : Nat) : Int) = ((15 * 16 ^ i : Nat) : Int) := by omega
  have hs := set_dg x i m hx hi hm
  have hl : x &&& (18446744073709551615 - 15 * 16 ^ i) < 18446744073709551616 := Nat.lt_of_le_of_lt Nat.and_le_left hx
  rw [e, e15, ← Int.natCast_mul, wrap_nat, wrap_nat, Nat.mod_eq_of_lt h4, Nat.mod_eq_of_lt h5, u64_andNot_nat x _ hx h5, or_nat hl h4, hs]
theorem halve_word (x : Nat) (hx : x < 18446744073709551616) : bits .and .u64 ((x : Int) / 2) 8608480567731124087 = ((x / 2 &&& 8608480567731124087 : Nat) : Int) := by
  have e : ((8608480567731124087 : Nat) : Int) = 8608480567731124087 := rfl
  have e2 : (x : Int) / 2 = ((x / 2 : Nat) : Int) := by omega
  rw [e2, ← e, and_nat (by omega) (by omega)]
theorem halve_calls (x : Nat) (hx : x < 18446744073709551616) : Tells 84 #[.int .u64 x] (.int .u64 ((x / 2 &&& 8608480567731124087 : Nat) : Int)) := by
  intro w
  have HW := Lib.hid (halve_word x hx)
  go_enter Try.func84, Try.ntmps84
  go_wp2
  go_ret
  exact ⟨by rw [← HW.out]; rfl, rfl⟩
end Go.Proofs.Ytnhdjpeadhcajaa
