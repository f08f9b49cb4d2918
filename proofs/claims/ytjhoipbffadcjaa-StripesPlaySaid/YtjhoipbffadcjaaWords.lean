/- Words: bits of numbers. -/
import Derived.Test.YtjhoipbffadcjaaProg
import Derived.WalkKit
import Derived.Lib.Hide
import Derived.Laws.BitsAllLaws
import Derived.Deep.LoopGhost
namespace Go.Proofs.Ytjhoipbffadcjaa
open Go.RowKit
/-- a number as a word -/
def wd (x : Int) : Nat := (x % 18446744073709551616).toNat
theorem wd_lt (x : Int) : wd x < 18446744073709551616 := by unfold wd; omega
theorem wrap_wd (x : Int) : IntKind.u64.wrap x = (wd x : Int) := by
  rw [IntKind.wrap_u64]; unfold wd; omega
theorem wd_nat (n : Nat) : wd (n : Int) = n % 18446744073709551616 := by unfold wd; omega
theorem wrap_nat (n : Nat) : IntKind.u64.wrap (n : Int) = ((n % 18446744073709551616 : Nat) : Int) := by rw [wrap_wd, wd_nat]
theorem xor_nat {a b : Nat} (ha : a < 18446744073709551616) (hb : b < 18446744073709551616) : bits .xor .u64 (a : Int) (b : Int) = ((a ^^^ b : Nat) : Int) := by
  have e : bits .xor .u64 (a : Int) (b : Int) = IntKind.u64.wrap ((BitVec.ofInt 64 (a : Int) ^^^ BitVec.ofInt 64 (b : Int)).toNat : Int) := rfl
  rw [e, BitVec.toNat_xor, BitVec.ofInt_natCast, BitVec.ofInt_natCast, BitVec.toNat_ofNat, BitVec.toNat_ofNat, Nat.mod_eq_of_lt (a := a) ha, Nat.mod_eq_of_lt (a := b) hb, wrap_nat, Nat.mod_eq_of_lt (Nat.xor_lt_two_pow (n := 64) ha hb)]
theorem or_nat {a b : Nat} (ha : a < 18446744073709551616) (hb : b < 18446744073709551616) : bits .or .u64 (a : Int) (b : Int) = ((a ||| b : Nat) : Int) := by
  have e : bits .or .u64 (a : Int) (b : Int) = IntKind.u64.wrap ((BitVec.ofInt 64 (a : Int) ||| BitVec.ofInt 64 (b : Int)).toNat : Int) := rfl
  rw [e, BitVec.toNat_or, BitVec.ofInt_natCast, BitVec.ofInt_natCast, BitVec.toNat_ofNat, BitVec.toNat_ofNat, Nat.mod_eq_of_lt (a := a) ha, Nat.mod_eq_of_lt (a := b) hb, wrap_nat, Nat.mod_eq_of_lt (Nat.or_lt_two_pow (n := 64) ha hb)]
theorem and_nat {a b : Nat} (ha : a < 18446744073709551616) (hb : b < 18446744073709551616) : bits .and .u64 (a : Int) (b : Int) = ((a &&& b : Nat) : Int) := by
  have e : bits .and .u64 (a : Int) (b : Int) = IntKind.u64.wrap ((BitVec.ofInt 64 (a : Int) &&& BitVec.ofInt 64 (b : Int)).toNat : Int) := rfl
  rw [e, BitVec.toNat_and, BitVec.ofInt_natCast, BitVec.ofInt_natCast, BitVec.toNat_ofNat, BitVec.toNat_ofNat, Nat.mod_eq_of_lt (a := a) ha, Nat.mod_eq_of_lt (a := b) hb, wrap_nat, Nat.mod_eq_of_lt (Nat.and_lt_two_pow (n := 64) _ hb)]
theorem mul_nat (a b : Nat) : IntKind.u64.wrap ((a : Int) * (b : Int)) = ((a * b % 18446744073709551616 : Nat) : Int) := by rw [← Int.natCast_mul, wrap_nat]
/-- a call that tells and changes nothing -/
def Tells (f : Nat) (args : Array Value) (v : Value) : Prop := ∀ w, Calls Try.prog f args w fun e w' => e = .returned v ∧ w = w'
end Go.Proofs.Ytjhoipbffadcjaa
