/- Contracts: how many bits are on; how many counters are odd. -/
import Derived.Test.YtfjnimlmedmdhaaNibRef2
namespace Go.Proofs.Ytfjnimlmedmdhaa
open Go.RowKit NibPure Go.Sep
theorem and_lit (a m : Nat) (ha : a < 18446744073709551616) (hm : m < 18446744073709551616) : bits .and .u64 (a : Int) (m : Int) = ((a &&& m : Nat) : Int) := and_nat ha hm
theorem ones_w1 (x : Nat) (hx : x < 18446744073709551616) : IntKind.u64.wrap (bits .and .u64 ((x : Int) / 2) 6148914691236517205 + bits .and .u64 (x : Int) 6148914691236517205) = (Pop.sm2 2 32 x : Nat) := by
  have e : ((x / 2 : Nat) : Int) = (x : Int) / 2 := by omega
  have h1 := and_lit (x / 2) 6148914691236517205 (by omega) (by omega)
  have h2 := and_lit x 6148914691236517205 hx (by omega)
  have hl : Pop.sm2 2 32 x < 18446744073709551616 := Pop.sm2_lt 2 (by omega) 32 x
  rw [e] at h1
  have e5 : ((6148914691236517205 : Nat) : Int) = 6148914691236517205 := rfl
  rw [e5] at h1 h2
  rw [h1, h2, ← Int.natCast_add, Pop.step1, wrap_nat, Nat.mod_eq_of_lt hl]
theorem ones_w2 (x : Nat) (hx : x < 18446744073709551616) : IntKind.u64.wrap (bits .and .u64 ((x : Int) / 4) 3689348814741910323 + bits .and .u64 (x : Int) 3689348814741910323) = (Pop.sm2 4 16 x : Nat) := by
  have e : ((x / 4 : Nat) : Int) = (x : Int) / 4 := by omega
  have h1 := and_lit (x / 4) 3689348814741910323 (by omega) (by omega)
  have h2 := and_lit x 3689348814741910323 hx (by omega)
  have hl : Pop.sm2 4 16 x < 18446744073709551616 := Pop.sm2_lt 4 (by omega) 16 x
  rw [e] at h1
  have e5 : ((3689348814741910323 : Nat) : Int) = 3689348814741910323 := rfl
  rw [e5] at h1 h2
  rw [h1, h2, ← Int.natCast_add, Pop.step2, wrap_nat, Nat.mod_eq_of_lt hl]
theorem ones_w3 (x : Nat) (h16 : x / 16 + x < 18446744073709551616) (h : ∀ k, x / 16 ^ k % 16 ≤ 7) : bits .and .u64 (IntKind.u64.wrap ((x : Int) / 16 + (x : Int))) 1085102592571150095 = (Pop.sm2 16 8 x : Nat) := by
  have e : ((x / 16 + x : Nat) : Int) = (x : Int) / 16 + (x : Int) := by omega
  have h1 := and_lit (x / 16 + x) 1085102592571150095 h16 (by omega)
  have e5 : ((1085102592571150095 : Nat) : Int) = 1085102592571150095 := rfl
  rw [e5] at h1
  rw [← e, wrap_nat, Nat.mod_eq_of_lt h16, h1, Pop.step3 x h]
theorem ones_wn (y s : Nat) (h : y + y / s < 18446744073709551616) : IntKind.u64.wrap ((y : Int) + (y : Int) / (s : Int)) = ((y + y / s : Nat) : Int) := by
  have e : ((y + y / s : Nat) : Int) = (y : Int) + (y : Int) / (s : Int) := by rw [Int.natCast_add, Int.natCast_ediv]
  rw [← e, wrap_nat, Nat.mod_eq_of_lt h]
theorem bits7 (c : Nat) (hc : c < 18446744073709551616) : bits .and .i64 (wrap64 (c : Int)) 127 = ((c % 128 : Nat) : Int) := by
  show IntKind.i64.wrap ((BitVec.ofInt 64 (wrap64 (c : Int)) &&& BitVec.ofInt 64 127).toNat : Int) = _
  have e : BitVec.ofInt 64 (wrap64 (c : Int)) = BitVec.ofNat 64 c := by
    apply BitVec.eq_of_toNat_eq
    rw [BitVec.toNat_ofInt, BitVec.toNat_ofNat]
    unfold wrap64
    omega
  rw [e, BitVec.toNat_and, BitVec.toNat_ofNat, show (BitVec.ofInt 64 127).toNat = 127 from rfl, Nat.mod_eq_of_lt hc, Nat.and_two_pow_sub_one_eq_mod _ 7, IntKind.wrap_i64]
  omega
theorem sm2_top (x : Nat) : ∀ n, (∀ k, x / 16 ^ k % 16 ≤ 7) → x < 16 ^ n → x / 16 + x < 16 ^ n
  | 0, _, h => by rw [Nat.pow_zero] at h ⊢; omega
  | n + 1, h, hx => by
    have h1 := h n
    have h2 : x / 16 ^ n < 16 := by
      rw [Nat.div_lt_iff_lt_mul (Nat.pow_pos (by omega)), Nat.mul_comm, ← Nat.pow_succ]; exact hx
    rw [Nat.mod_eq_of_lt h2] at h1
    have h3 := Nat.div_add_mod x (16 ^ n)
    have h4 := Nat.mod_lt x (show 0 < 16 ^ n from Nat.pow_pos (by omega))
    have h5 := Nat.mul_le_mul_left (16 ^ n) h1
    rw [Nat.pow_succ] at hx ⊢
    omega
set_option maxHeartbeats 1600000 in
theorem ones_calls (x : Nat) (hx : x < 18446744073709551616) : Tells 26 #[.int .u64 x] (.int .i64 (Pop.ds 2 64 x : Nat)) := by
  intro w
  have w1 := ones_w1 x hx
  have l1 : Pop.sm2 2 32 x < 18446744073709551616 := Pop.sm2_lt 2 (by omega) 32 x
  have w2 := ones_w2 _ l1
  have l2 : Pop.sm2 4 16 (Pop.sm2 2 32 x) < 18446744073709551616 := Pop.sm2_lt 4 (by omega) 16 _
  have w3 := ones_w3 _ (sm2_top _ 16 (Pop.sm2_digits7 x) l2) (Pop.sm2_digits7 x)
  obtain ⟨y, hy⟩ : ∃ y, y = Pop.sm2 16 8 (Pop.sm2 4 16 (Pop.sm2 2 32 x)) := ⟨_, rfl⟩
  obtain ⟨a, ha⟩ : ∃ a, a = y + y / 256 := ⟨_, rfl⟩
  obtain ⟨b, hb⟩ : ∃ b, b = a + a / 65536 := ⟨_, rfl⟩
  obtain ⟨c, hc⟩ : ∃ c, c = b + b / 4294967296 := ⟨_, rfl⟩
  obtain ⟨k1, k2⟩ := Pop.ones_word x y a b c hy ha hb hc
  have w4 := ones_wn y 256 (by omega)
  have w5 := ones_wn a 65536 (by omega)
  have w6 := ones_wn b 4294967296 (by omega)
  have w7 := bits7 c k2
  rw [← ha] at w4
  rw [← hb] at w5
  rw [← hc] at w6
  rw [← hy] at w3
  rw [k1] at w7
  clear ha hb hc hy k1
  generalize Pop.sm2 4 16 (Pop.sm2 2 32 x) = x2 at *
  generalize Pop.sm2 2 32 x = x1 at *
  generalize Pop.ds 2 64 x = r at *
  have e1 : ((256 : Nat) : Int) = 256 := rfl
  have e2 : ((65536 : Nat) : Int) = 65536 := rfl
  have e3 : ((4294967296 : Nat) : Int) = 4294967296 := rfl
  rw [e1] at w4
  rw [e2] at w5
  rw [e3] at w6
  clear e1 e2 e3
  go_enter Try.func26, Try.ntmps26
  go_wp2
  go_ret
  exact ⟨rfl, rfl⟩
/-- the odd ones, as the document counts them -/
def od (w : Nat) : Nat → Nat
  | 0 => 0
  | k + 1 => od w k + dg w k % 2
theorem od_le (x : Nat) : ∀ k, od x k ≤ k
  | 0 => Nat.le_refl _
  | k + 1 => by
    have := od_le x k
    rw [od]; omega
theorem ds_add (B : Nat) : ∀ (m n x : Nat), Pop.ds B (m + n) x = Pop.ds B m x + Pop.ds B n (x / B ^ m)
  | 0, n, x => by rw [Nat.zero_add, Pop.ds, Nat.pow_zero, Nat.div_one, Nat.zero_add]
  | m + 1, n, x => by
    rw [show m + 1 + n = (m + n) + 1 by omega, Pop.ds, Pop.ds, ds_add B m n, Nat.div_div_eq_div_mul, Nat.pow_succ, Nat.mul_comm B]
    omega
theorem ds_four (y : Nat) (h : y % 16 ≤ 1) : Pop.ds 2 4 y = y % 16 := by
  simp only [Pop.ds]
  omega
theorem ds_low (x : Nat) (h : ∀ k, k < 16 → dg x k ≤ 1) : ∀ k, k ≤ 16 → Pop.ds 2 (4 * k) x = sm x k
  | 0, _ => rfl
  | k + 1, hk => by
    have h1 := h k (by omega)
    rw [show 4 * (k + 1) = 4 * k + 4 by omega, ds_add, ds_low x h k (by omega), sm]
    unfold dg at h1
    rw [show (16 : Nat) = 2 ^ 4 from rfl, ← Nat.pow_mul] at h1
    rw [ds_four _ h1]
    unfold dg
    rw [show (16 : Nat) = 2 ^ 4 from rfl, ← Nat.pow_mul]
theorem sm_odd (x : Nat) : ∀ k, k ≤ 16 → sm (x &&& 1229782938247303441) k = od x k
  | 0, _ => rfl
  | k + 1, hk => by rw [sm, od, sm_odd x k (by omega), odd_dg x k (by omega)]
theorem odd_ones (x : Nat) : Pop.ds 2 64 (x &&& 1229782938247303441) = od x 16 := by
  rw [← sm_odd x 16 (by omega)]
  exact ds_low _ (fun k hk => by rw [odd_dg x k hk]; omega) 16 (by omega)
theorem odd_calls (x : Nat) (hx : x < 18446744073709551616) : Tells 22 #[.int .u64 x] (.int .i64 (od x 16)) := by
  intro w
  have w1 := and_lit x 1229782938247303441 hx (by omega)
  have e5 : ((1229782938247303441 : Nat) : Int) = 1229782938247303441 := rfl
  rw [e5] at w1
  have c1 := ones_calls (x &&& 1229782938247303441) (Nat.lt_of_le_of_lt Nat.and_le_left hx)
  rw [odd_ones] at c1
  generalize x &&& 1229782938247303441 = y at *
  clear e5
  go_enter Try.func22, Try.ntmps22
  go_wp2_with fail
  go_at_call 26
  refine (c1 _).mono ?_
  rintro e w1 ⟨rfl, rfl⟩
  go_wp2_with fail
  go_ret
  exact ⟨rfl, rfl⟩
/-- the document's: halves, sums, odd ones -/
theorem half_arr (x k : Nat) (hk : k < 16) : (arrC (fun j => if j < k then dg x j / 2 else dg x j)).setIfInBounds k (.int .i64 ((dg x k / 2 : Nat) : Int)) = arrC (fun j => if j < k + 1 then dg x j / 2 else dg x j) := by
  rw [arr_set _ _ _ hk]
  congr 1
  funext j
  by_cases h1 : j = k
  · rw [if_pos h1, if_pos (by omega), h1]
  · rw [if_neg h1]
    by_cases h2 : j < k
    · rw [if_pos h2, if_pos (by omega)]
    · rw [if_neg h2, if_neg (by omega)]
theorem half_word (x : Nat) (hx : x < 18446744073709551616) : pk (fun j => dg x j / 2) 16 = x / 2 &&& 8608480567731124087 := by
  have hd : ∀ j, dg x j / 2 < 16 := fun j => by have := dg_lt x j; omega
  refine dg_ext 16 (pk_lt16 _ hd) (Nat.lt_of_le_of_lt Nat.and_le_left (by omega)) fun k hk => ?_
  rw [pk_all _ hd k hk, halve_dg x k hk]
def HalfRel (w0 : World) (g x k : Nat) (w : World) : Prop := Owned w0 w [(g, .cells (arrC (fun j => if j < k then dg x j / 2 else dg x j)) 28 (0, 0))]
set_option maxHeartbeats 1600000 in
set_option maxRecDepth 100000 in
theorem ref_halve (x : Nat) (hx : x < 18446744073709551616) : TellsB 19 #[.int .u64 x] (.int .u64 ((x / 2 &&& 8608480567731124087 : Nat) : Int)) := by
  intro w0
  have c1 := ref_all x hx w0
  have cpack := pack_calls (fun j => dg x j / 2) (fun j => by have := dg_lt x j; omega)
  rw [half_word x hx] at cpack
  go_enter Try.func19, Try.ntmps19
  go_wp2_with fail
  go_at_call 17
  refine (c1).mono ?_
  rintro e w1 ⟨rfl, hb1⟩
  have hO := ((Owned.nil w0).under hb1).alloc (.cells zeros16 28)
  have HO0 := Lib.hid hO
  clear hO
  go_wp2_with (refine store_whole rfl _ _ _ rfl w1.heap.size rfl HO0.out (arrC (dg x)) rfl rfl (info_arr_of _ rfl) (arrC_one _) ?_; intro w2 hO2; have HO2 := Lib.hid hO2; clear hO2)
  go_loopw [4] (fun x4 wr => ∃ k : Nat, k ≤ 16 ∧ x4 = .int .i64 k ∧ Hid (HalfRel w0 w1.heap.size x k wr)) (fun x4 _ => 16 - (intOf x4).toNat)
  case atStart => exact ⟨0, by omega, rfl, HO2.out⟩
  case round =>
    obtain ⟨k, hk, rfl, hrel⟩ := hrel
    have hO := hrel.out
    clear hrel HO0 HO2
    unfold HalfRel at hO
    by_cases hlt : k < 16
    · have hlv := (Owned.cell hO k).trans (arrC_get _ k hlt)
      rw [if_neg (by omega)] at hlv
      have hfz := Owned.frozen hO k
      have hlt2 := Owned.lt hO
      have hset := Owned.set hO k (.int .i64 ((dg x k / 2 : Nat) : Int))
      rw [half_arr x k hlt] at hset
      have HS : Hid (HalfRel w0 w1.heap.size x (k + 1) (wr.setCell ⟨w1.heap.size, k, none⟩ (.int .i64 ((dg x k / 2 : Nat) : Int)))) := Lib.hid hset
      have hd := dg_lt x k
      have hk16 : (k : Int) < 16 := by omega
      clear hO hset
      generalize dg x k = d at *
      go_wp2_with fail
      go_roundw
      case rel => exact ⟨k + 1, by omega, by go_num, by rw [show ((d / 2 : Nat) : Int) = (d : Int) / 2 by omega] at HS; exact HS⟩
      case measure => simp [intOf]; omega
    · obtain rfl : k = 16 := by omega
      have e : arrC (fun j => if j < 16 then dg x j / 2 else dg x j) = arrC (fun j => dg x j / 2) := rfl
      rw [e] at hO
      have HO := Lib.hid hO
      clear hO
      go_wp2_with (first
        | (refine load_whole rfl _ _ rfl w1.heap.size rfl HO.out _ und_arr rfl (info_arr_of _ rfl) ?_)
        | (go_at_call 25; refine (cpack _).mono ?_; rintro e w3 ⟨rfl, hb3⟩))
      go_ret
      exact ⟨rfl, (HO.out.under hb3).below⟩
set_option maxHeartbeats 400000 in
theorem ref_sum (x : Nat) (hx : x < 18446744073709551616) : Tells 21 #[.int .u64 x] (.int .i64 (sm x 16)) := by
  intro w
  go_enter Try.func21, Try.ntmps21
  go_wp2
  go_loop [3, 4] (fun x3 x4 => ∃ k : Nat, k ≤ 16 ∧ x4 = .int .i64 k ∧ x3 = .int .i64 (sm x k)) (fun _ x4 => 16 - (intOf x4).toNat)
  case atStart => exact ⟨0, by omega, rfl, rfl⟩
  case round =>
    obtain ⟨k, hk, rfl, rfl⟩ := hrel
    by_cases hlt : k < 16
    · have c1 := ref_get_in x hx k hlt
      have hd := dg_lt x k
      have hs : sm x (k + 1) = sm x k + dg x k := rfl
      have hb1 := sm_le x k
      have HS := Lib.hid hs
      clear hs
      go_wp2_with fail
      go_at_call 13
      refine (c1 _).mono ?_
      rintro e w1 ⟨rfl, rfl⟩
      go_wp2_with fail
      go_round
      case rel => exact ⟨k + 1, by omega, by go_num, by rw [HS.out]; go_num⟩
      case measure => simp [intOf]; omega
    · obtain rfl : k = 16 := by omega
      go_wp2_with fail
      go_ret
      exact ⟨rfl, rfl⟩
set_option maxHeartbeats 400000 in
theorem ref_odd (x : Nat) (hx : x < 18446744073709551616) : Tells 23 #[.int .u64 x] (.int .i64 (od x 16)) := by
  intro w
  go_enter Try.func23, Try.ntmps23
  go_wp2
  go_loop [3, 4] (fun x3 x4 => ∃ k : Nat, k ≤ 16 ∧ x4 = .int .i64 k ∧ x3 = .int .i64 (od x k)) (fun _ x4 => 16 - (intOf x4).toNat)
  case atStart => exact ⟨0, by omega, rfl, rfl⟩
  case round =>
    obtain ⟨k, hk, rfl, rfl⟩ := hrel
    by_cases hlt : k < 16
    · have c1 := ref_get_in x hx k hlt
      have hd := dg_lt x k
      have hs : od x (k + 1) = od x k + dg x k % 2 := rfl
      have hb1 := od_le x k
      have HS := Lib.hid hs
      clear hs
      go_wp2_with fail
      go_at_call 13
      refine (c1 _).mono ?_
      rintro e w1 ⟨rfl, rfl⟩
      go_wp2_with fail
      go_round
      case rel => exact ⟨k + 1, by omega, by go_num, by rw [HS.out]; go_num⟩
      case measure => simp [intOf]; omega
    · obtain rfl : k = 16 := by omega
      go_wp2_with fail
      go_ret
      exact ⟨rfl, rfl⟩
end Go.Proofs.Ytfjnimlmedmdhaa
