/- Merged texts: Contract: how many of a word's bits are on. Contracts of layer 4's functions over own memory: has, put, clear, ones, new. -/
import Derived.Test.YtnhdjpeadhcajaaK01
import Derived.Test.YtnhdjpeadhcajaaK06
import Derived.Test.YtnhdjpeadhcajaaK07
import Derived.Test.YtnhdjpeadhcajaaK05
import Derived.Lib.SliceRun
namespace Go.Proofs.Ytnhdjpeadhcajaa
open Go.RowKit
theorem and_lit (a m : Nat) (ha : a < 18446744073709551616) (hm : m < 18446744073709551616) : bits .and .u64 (a : Int) (m : Int) = ((a &&& m : Nat) : Int) := and_nat ha hm
theorem ones_w1 (x : Nat) (hx : x < 18446744073709551616) : IntKind.u64.wrap (bits .and .u64 ((x : Int) / 2) 6148914691236517205 + bits .and .u64 (x : Int) 6148914691236517205) = (Pop.sm2 2 32 x : Nat) := by
  have e : ((x / 2 : Nat) : Int) = (x : Int) / 2 := by omega
  have h1 := and_lit (x / 2) 6148914691236517205 (by omega) (by omega)
  have h2 := and_lit x 6148914691236517205 hx (by omega)
  have hl : Pop.sm2 2 32 x < 18446744073709551616 := Pop.sm2_lt 2 (by omega) 32 x
  rw [e] at h1
  have e5 : ((6148914691236517205 : Nat) : Int) = 6148914691236517205 := rfl
  rw [e5] at h1 h2
  rw [h1, h2, ← Int.natCast_add, Pop.step1, wrap_nat, Nat.mod_eq_of_lt hl]
theorem ones_w2 (x : Nat) (hx : x < 18446744073709551616) : IntKind.u64.wrap (bits .and .u64 ((x : Int) / 4) 3689348814741910323 + bits .and .u64 (x : Int) 3689348814741910323) = (Pop.sm2 4 16 x : Nat) := by
  have e : ((x / 4 : Nat) : Int) = (x : Int) / 4 := by omega
  have h1 := and_lit (x / 4) 3689348814741910323 (by omega) (by omega)
  have h2 := and_lit x 3689348814741910323 hx (by omega)
  have hl : Pop.sm2 4 16 x < 18446744073709551616 := Pop.sm2_lt 4 (by omega) 16 x
  rw [e] at h1
  have e5 : ((3689348814741910323 : Nat) : Int) = 3689348814741910323 := rfl
  rw [e5] at h1 h2
  rw [h1, h2, ← Int.natCast_add, Pop.step2, wrap_nat, Nat.mod_eq_of_lt hl]
theorem ones_w3 (x : Nat) (h16 : x / 16 + x < 18446744073709551616) (h : ∀ k, x / 16 ^ k % 16 ≤ 7) : bits .and .u64 (IntKind.u64.wrap ((x : Int) / 16 + (x : Int))) 1085102592571150095 = (Pop.sm2 16 8 x : Nat) := by
  have e : ((x / 16 + x : Nat) : Int) = (x : Int) / 16 + (x : Int) := by omega
  have h1 := and_lit (x / 16 + x) 1085102592571150095 h16 (by omega)
  have e5 : ((1085102592571150095 : Nat) : Int) = 1085102592571150095 := rfl
  rw [e5] at h1
  rw [← e, wrap_nat, Nat.mod_eq_of_lt h16, h1, Pop.step3 x h]
theorem ones_wn (y s : Nat) (h : y + y / s < 18446744073709551616) : IntKind.u64.wrap ((y : Int) + (y : Int) / (s : Int)) = ((y + y / s : Nat) : Int) := by
  have e : ((y + y / s : Nat) : Int) = (y : Int) + (y : Int) / (s : Int) := by rw [Int.natCast_add, Int.natCast_ediv]
  rw [← e, wrap_nat, Nat.mod_eq_of_lt h]
theorem bits7 (c : Nat) (hc : c < 18446744073709551616) : bits .and .i64 (wrap64 (c : Int)) 127 = ((c % 128 : Nat) : Int) := by
  show IntKind.i64.wrap ((BitVec.ofInt 64 (wrap64 (c : Int)) &&& BitVec.ofInt 64 127).toNat : Int) = _
  have e : BitVec.ofInt 64 (wrap64 (c : Int)) = BitVec.ofNat 64 c := by
    apply BitVec.eq_of_toNat_eq
    rw [BitVec.toNat_ofInt, BitVec.toNat_ofNat]
    unfold wrap64
    omega
  rw [e, BitVec.toNat_and, BitVec.toNat_ofNat, show (BitVec.ofInt 64 127).toNat = 127 from rfl, Nat.mod_eq_of_lt hc, Nat.and_two_pow_sub_one_eq_mod _ 7, IntKind.wrap_i64]
  omega
theorem sm2_top (x : Nat) : ∀ n, (∀ k, x / 16 ^ k % 16 ≤ 7) → x < 16 ^ n → x / 16 + x < 16 ^ n
  | 0, _, h => by rw [Nat.pow_zero] at h ⊢; omega
  | n + 1, h, hx => by
    have h1 := h n
    have h2 : x / 16 ^ n < 16 := by
      rw [Nat.div_lt_iff_lt_mul (Nat.pow_pos (by omega)), Nat.mul_comm, ← Nat.pow_succ]; exact hx
    rw [Nat.mod_eq_of_lt h2] at h1
    have h3 := Nat.div_add_mod x (16 ^ n)
    have h4 := Nat.mod_lt x (show 0 < 16 ^ n from Nat.pow_pos (by omega))
    have h5 := Nat.mul_le_mul_left (16 ^ n) h1
    rw [Nat.pow_succ] at hx ⊢
    omega
end Go.Proofs.Ytnhdjpeadhcajaa
namespace Go.Proofs.Ytnhdjpeadhcajaa
open Go.RowKit Go.Sep DoorPure
set_option maxRecDepth 100000
section
variable {g b : Nat} {seed : Int} {ws : List Nat} {w0 w : World} {F : Own}
/-- how a door stands in memory; B: its bits -/
def DoorAt (g : Nat) (seed : Int) (B : List Bool) (r : Own) : Prop := ∃ b ws, r = doorB g b seed ws ∧ Words ws B ∧ 1 ≤ ws.length ∧ ws.length ≤ 8192
theorem bitB_eq {B : List Bool} (h : Words ws B) {j : Nat} (hj : j < B.length) : bitB ws j = B.getD j false := h.bit j hj
theorem door_size {B : List Bool} {r : Own} (hr : DoorAt g seed B r) (h : Owned w0 w (r ++ F)) :
    Calls Try.prog 82 #[.pointer (some ⟨g, 0, none⟩)] w fun e w' => e = .returned (.int .i64 B.length) ∧ w = w' := by
  obtain ⟨b, ws, rfl, hw, h1, h2⟩ := hr
  have e : (64 * (ws.length : Int)) = ((B.length : Nat) : Int) := by rw [hw.len]; omega
  have := size_calls (by omega) h
  rw [e] at this
  exact this
set_option maxHeartbeats 400000 in
theorem door_has {B : List Bool} {r : Own} (key : Int) (hr : DoorAt g seed B r) (h : Owned w0 w (r ++ F)) :
    Calls Try.prog 62 #[.pointer (some ⟨g, 0, none⟩), .int .i64 key] w fun e w' => e = .returned (.bool (B.getD (plc seed key 0 B.length) false && B.getD (plc seed key 1 B.length) false)) ∧ Owned w0 w' (r ++ F) := by
  obtain ⟨b, ws, rfl, hw, h1, h2⟩ := hr
  have hlen := hw.len
  have p0 := plc_lt seed key 0 (show 1 ≤ B.length by omega)
  have p1 := plc_lt seed key 1 (show 1 ≤ B.length by omega)
  have c1 := places_calls key (show ws.length ≤ 100000 by omega) h
  rw [← bitB_eq hw p0, ← bitB_eq hw p1]
  rw [← hlen] at c1
  generalize plc seed key 0 B.length = i at *
  generalize plc seed key 1 B.length = j at *
  have c2 : ∀ W, Owned w0 W ((w.heap.size, .cells #[.int .i64 i, .int .i64 j] 3 (0, 0)) :: (doorB g b seed ws ++ F)) → Calls Try.prog 65 #[.pointer (some ⟨g, 0, none⟩), .slice (some ⟨w.heap.size, 0, none⟩) 2 2] W fun e w' => e = .returned (.bool (bitB ws i && bitB ws j)) ∧ W = w' := fun W hW => on_calls _ i j (by omega) hw.lt (by omega) (by omega) hW
  clear hlen p0 p1 hw
  go_enter Try.func62, Try.ntmps62
  go_wp2_with fail
  go_at_call 64
  refine (c1).mono ?_
  rintro e w1 ⟨rfl, hO⟩
  go_wp2_with fail
  go_at_call 65
  refine (c2 _ hO).mono ?_
  rintro e w2 ⟨rfl, rfl⟩
  go_wp2_with fail
  go_ret
  exact ⟨rfl, hO.tail⟩
/-- words with bits of a key turned on, one behind the other -/
def onB (ws : List Nat) (j : Nat) : List Nat := ws.set (j / 64) (ws.getD (j / 64) 0 ||| 2 ^ (j % 64))
theorem onB_len (ws : List Nat) (j : Nat) : (onB ws j).length = ws.length := by simp [onB]
def ons (ws : List Nat) (i j : Nat) : Nat → List Nat
  | 0 => ws
  | 1 => onB ws i
  | _ => onB (onB ws i) j
theorem div64' (i : Nat) (h : i ≤ 1000000) : IntKind.i64.wrap ((i : Int) / 64) = ((i / 64 : Nat) : Int) := by
  rw [IntKind.wrap_i64]; omega
theorem mod64' (i : Nat) : (i : Int).tmod 64 = ((i % 64 : Nat) : Int) := by
  rw [Int.tmod_eq_emod_of_nonneg (by omega)]; omega
theorem or_word (x k : Nat) (hx : x < 18446744073709551616) (hk : k < 64) : bits .or .u64 (x : Int) (IntKind.u64.wrap (2 ^ k)) = ((x ||| 2 ^ k : Nat) : Int) := by
  have hp : 2 ^ k < 18446744073709551616 := Nat.pow_lt_pow_right (a := 2) (n := 64) (by omega) hk
  have e : ((2 : Int) ^ k) = ((2 ^ k : Nat) : Int) := by simp
  rw [e, wrap_nat, Nat.mod_eq_of_lt hp, or_nat hx hp]
theorem owned_word (h : Owned w0 w (doorB g b seed ws ++ F)) (q v : Nat) : Owned w0 (w.setCell ⟨b, q, none⟩ (.int .u64 (v : Int))) (doorB g b seed (ws.set q v) ++ F) := by
  have k := Owned.swap (Owned.set (Owned.swap h) q (.int .u64 (v : Int)))
  rw [wordsV_set] at k
  unfold doorB
  rw [List.length_set]
  exact k
set_option maxHeartbeats 1600000 in
theorem door_put {B : List Bool} {r : Own} (key : Int) (hr : DoorAt g seed B r) (h : Owned w0 w (r ++ F)) :
    Calls Try.prog 44 #[.pointer (some ⟨g, 0, none⟩), .int .i64 key] w fun e w' => ∃ r', e = .returned (.bool (B.getD (plc seed key 0 B.length) false && B.getD (plc seed key 1 B.length) false)) ∧ DoorAt g seed ((B.set (plc seed key 0 B.length) true).set (plc seed key 1 B.length) true) r' ∧ Owned w0 w' (r' ++ F) := by
  obtain ⟨b, ws, rfl, hw, h1, h2⟩ := hr
  have hlen := hw.len
  have p0 := plc_lt seed key 0 (show 1 ≤ B.length by omega)
  have p1 := plc_lt seed key 1 (show 1 ≤ B.length by omega)
  have c1 := places_calls key (show ws.length ≤ 100000 by omega) h
  rw [← bitB_eq hw p0, ← bitB_eq hw p1]
  rw [← hlen] at c1
  generalize plc seed key 0 B.length = i at *
  generalize plc seed key 1 B.length = j at *
  have c2 : ∀ W, Owned w0 W ((w.heap.size, .cells #[.int .i64 i, .int .i64 j] 3 (0, 0)) :: (doorB g b seed ws ++ F)) → Calls Try.prog 65 #[.pointer (some ⟨g, 0, none⟩), .slice (some ⟨w.heap.size, 0, none⟩) 2 2] W fun e w' => e = .returned (.bool (bitB ws i && bitB ws j)) ∧ W = w' := fun W hW => on_calls _ i j (by omega) hw.lt (by omega) (by omega) hW
  have hw1 : Words (onB ws i) (B.set i true) := hw.on i p0
  have hw2 : Words (onB (onB ws i) j) ((B.set i true).set j true) := hw1.on j (by rw [List.length_set]; exact p1)
  have HW2 := Lib.hid hw2
  have hlt0 := hw.lt (i / 64)
  have hlt1 := hw1.lt (j / 64)
  have qi : i / 64 < ws.length := by omega
  have qj : j / 64 < ws.length := by omega
  generalize (bitB ws i && bitB ws j) = had at *
  clear hw hw1 hw2 hlen p0 p1
  go_enter Try.func44, Try.ntmps44
  go_wp2_with fail
  go_at_call 64
  refine (c1).mono ?_
  rintro e w1 ⟨rfl, hO⟩
  go_wp2_with fail
  go_at_call 65
  refine (c2 _ hO).mono ?_
  rintro e w2 ⟨rfl, rfl⟩
  have HO := Lib.hid hO
  clear hO c2 c1 h
  go_wp2_with fail
  go_loopw [17] (fun x17 wr => ∃ k : Nat, k ≤ 2 ∧ x17 = .int .i64 k ∧ Hid (Owned w0 wr ((w.heap.size, .cells #[.int .i64 i, .int .i64 j] 3 (0, 0)) :: (doorB g b seed (ons ws i j k) ++ F)))) (fun x17 _ => 2 - (intOf x17).toNat)
  case atStart => exact ⟨0, by omega, rfl, HO⟩
  case round =>
    obtain ⟨k, hk, rfl, HK⟩ := hrel
    clear HO
    rcases (show k = 0 ∨ k = 1 ∨ k = 2 by omega) with rfl | rfl | rfl
    · have hO : Owned w0 wr ((w.heap.size, .cells #[.int .i64 i, .int .i64 j] 3 (0, 0)) :: (doorB g b seed (ws) ++ F)) := HK.out
      have hlen2 : (ws).length = ws.length := rfl
      have d1 : wr.cell? ⟨g, 1, none⟩ = some (.slice (some ⟨b, 0, none⟩) (ws).length (ws).length) := (Owned.cell hO.tail 1).trans rfl
      rw [hlen2] at d1
      have ci : wr.cell? ⟨w.heap.size, 0, none⟩ = some (.int .i64 i) := Owned.cell hO 0
      have wi : wr.cell? ⟨b, i / 64, none⟩ = some (.int .u64 (((ws).getD (i / 64) 0 : Nat) : Int)) := (Owned.cell hO.tail.swap (i / 64)).trans (wordsV_get (ws) _ (by rw [hlen2]; exact qi))
      have fi : wr.frozen? ⟨b, i / 64, none⟩ = false := Owned.frozen hO.tail.swap (i / 64)
      have ow := or_word _ (i % 64) hlt0 (by omega)
      have k6 := div64' i (by omega)
      have k7 := mod64' i
      have k3 : ((i / 64 : Nat) : Int) < (ws.length : Int) := by omega
      have k4 : (0 : Int) ≤ ((i / 64 : Nat) : Int) := by omega
      have k5 : (0 : Int) ≤ ((i % 64 : Nat) : Int) := by omega
      have k8 : min (i % 64) 64 = i % 64 := by omega
      have hset : Owned w0 (wr.setCell ⟨b, i / 64, none⟩ (.int .u64 ((((ws).getD (i / 64) 0 ||| 2 ^ (i % 64) : Nat)) : Int))) ((w.heap.size, .cells #[.int .i64 i, .int .i64 j] 3 (0, 0)) :: (doorB g b seed (onB (ws) i) ++ F)) :=
        Owned.comm (b := [_]) (owned_word (Owned.comm (a := [_]) hO) (i / 64) _)
      have HSET := Lib.hid hset
      clear hset hO hlen2
      generalize (ws).getD (i / 64) 0 = x at *
      generalize i / 64 = q at *
      generalize i % 64 = m at *
      go_wp2_with fail
      go_still_tail 13, (by kernel_rfl)
      go_wp2_with fail
      go_roundw
      case rel => exact ⟨1, by omega, rfl, Lib.hid HSET.out.drew⟩
      case measure => simp [intOf]
    · have hO : Owned w0 wr ((w.heap.size, .cells #[.int .i64 i, .int .i64 j] 3 (0, 0)) :: (doorB g b seed (onB ws i) ++ F)) := HK.out
      have hlen2 : (onB ws i).length = ws.length := onB_len ws i
      have d1 : wr.cell? ⟨g, 1, none⟩ = some (.slice (some ⟨b, 0, none⟩) (onB ws i).length (onB ws i).length) := (Owned.cell hO.tail 1).trans rfl
      rw [hlen2] at d1
      have ci : wr.cell? ⟨w.heap.size, 1, none⟩ = some (.int .i64 j) := Owned.cell hO 1
      have wi : wr.cell? ⟨b, j / 64, none⟩ = some (.int .u64 (((onB ws i).getD (j / 64) 0 : Nat) : Int)) := (Owned.cell hO.tail.swap (j / 64)).trans (wordsV_get (onB ws i) _ (by rw [hlen2]; exact qj))
      have fi : wr.frozen? ⟨b, j / 64, none⟩ = false := Owned.frozen hO.tail.swap (j / 64)
      have ow := or_word _ (j % 64) hlt1 (by omega)
      have k6 := div64' j (by omega)
      have k7 := mod64' j
      have k3 : ((j / 64 : Nat) : Int) < (ws.length : Int) := by omega
      have k4 : (0 : Int) ≤ ((j / 64 : Nat) : Int) := by omega
      have k5 : (0 : Int) ≤ ((j % 64 : Nat) : Int) := by omega
      have k8 : min (j % 64) 64 = j % 64 := by omega
      have hset : Owned w0 (wr.setCell ⟨b, j / 64, none⟩ (.int .u64 ((((onB ws i).getD (j / 64) 0 ||| 2 ^ (j % 64) : Nat)) : Int))) ((w.heap.size, .cells #[.int .i64 i, .int .i64 j] 3 (0, 0)) :: (doorB g b seed (onB (onB ws i) j) ++ F)) :=
        Owned.comm (b := [_]) (owned_word (Owned.comm (a := [_]) hO) (j / 64) _)
      have HSET := Lib.hid hset
      clear hset hO hlen2
      generalize (onB ws i).getD (j / 64) 0 = x at *
      generalize j / 64 = q at *
      generalize j % 64 = m at *
      go_wp2_with fail
      go_still_tail 13, (by kernel_rfl)
      go_wp2_with fail
      go_roundw
      case rel => exact ⟨2, by omega, rfl, Lib.hid HSET.out.drew⟩
      case measure => simp [intOf]
    · go_wp2_with fail
      go_ret
      exact ⟨_, rfl, ⟨b, _, rfl, HW2.out, by rw [onB_len, onB_len]; omega, by rw [onB_len, onB_len]; omega⟩, HK.out.tail⟩
end
end Go.Proofs.Ytnhdjpeadhcajaa
