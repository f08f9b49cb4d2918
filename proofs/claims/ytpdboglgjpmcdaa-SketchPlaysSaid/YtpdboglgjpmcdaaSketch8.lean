/- Layer 3: a row's counters, the walk. -/
import Derived.Test.YtpdboglgjpmcdaaSketch7
namespace Go.Proofs.Ytpdboglgjpmcdaa
open Go.RowKit NibPure Go.Sep
section
variable {g n N : Nat} {seed : Int} {rb : Nat → Nat} {rw : Nat → List Nat} {w0 w : World} {F : Own}
theorem add_zero_off (b j : Nat) : (⟨b, 0, none⟩ : Addr).add j = ⟨b, j, none⟩ := by
  simp [Addr.add]
  exact fun h => h.symm
def RowRel (w0 : World) (S : Own) (rw : Nat → List Nat) (k q : Nat) (v : Value) (w : World) : Prop := ∃ r, Row 3 1 v (16 * q) (rowL rw k q) r ∧ Owned w0 w (r ++ S)
set_option maxHeartbeats 3200000 in
set_option maxRecDepth 100000 in
theorem sk_row_in (k : Nat) (hk4 : k < 4) (hn2 : n ≤ 4096) (hR : Rows n rw) (h : Owned w0 w (skB g seed n N rb rw ++ F)) :
    Calls Try.prog 17 #[.pointer (some ⟨g, 0, none⟩), .int .i64 (k : Int)] w fun e w' => ∃ v r, e = .returned v ∧ Row 3 1 v (16 * n) (rowL rw k n) r ∧ Owned w0 w' (r ++ (skB g seed n N rb rw ++ F)) := by
  have cr := sk_row h k hk4
  have hcw : ∀ W r, Owned w0 W (r ++ (skB g seed n N rb rw ++ F)) → ∀ q, q < n → W.cell? ⟨rb k, q, none⟩ = some (.int .u64 (((rw k).getD q 0 : Nat) : Int)) := fun W r hW q hq => sk_word (Owned.drop_ hW) hk4 (by rw [hR.len k hk4]; exact hq)
  have HCW := Lib.hid hcw
  have HR := Lib.hid hR
  have HO := Lib.hid (show RowRel w0 (skB g seed n N rb rw ++ F) rw k 0 (.slice none 0 0) w from ⟨[], Row.nil _ _, h⟩)
  clear hcw hR h
  generalize hS : skB g seed n N rb rw ++ F = S at *
  clear hS
  go_enter Try.func17, Try.ntmps17
  go_wp2_with fail
  go_loopw [5, 22] (fun x5 x22 wr => ∃ q : Nat, q ≤ n ∧ x22 = .int .i64 q ∧ Hid (RowRel w0 S rw k q x5 wr)) (fun _ x22 _ => n - (intOf x22).toNat)
  case atStart => exact ⟨0, by omega, rfl, HO⟩
  case round =>
    clear HO cr
    obtain ⟨q, hq, rfl, hrel⟩ := hrel
    obtain ⟨r, hrow, hO⟩ := hrel.out
    by_cases hlt : q < n
    · have cw := HCW.out _ _ hO q hlt
      have ca := all_calls _ (HR.out.lt k q)
      have hsucc := rowL_succ rw k q
      generalize (rw k).getD q 0 = x at *
      have HS := Lib.hid hsucc
      have hone : ∀ u ∈ (arrC (dg x)).toList, u.oneCell' = true := by simp [arrC, Value.oneCell']
      have hm1 : 16 * q + 16 ≤ maxLen := by unfold maxLen; omega
      have hm2 : (16 * q + 16) * 8 ≤ 140737488355328 := by omega
      obtain ⟨A1, c1, rfl⟩ := hrow.slice
      clear hsucc hrel
      go_wp2_with fail
      go_at_call 28
      refine (ca _).mono ?_
      rintro e w1 ⟨rfl, hb1⟩
      have HO1 := Lib.hid ((hO.under hb1).alloc (.cells zeros16 55))
      clear hb1 ca cw hO
      go_wp2_with (first
        | (refine store_whole rfl _ _ _ rfl w1.heap.size rfl HO1.out (arrC (dg x)) rfl rfl (info_arr_of _ rfl) (arrC_one _) ?_; intro w2 hO2; have HO2 := Lib.hid hO2; clear hO2)
        | (at_builtin; refine append_any rfl (.tmp 28) (.tmp 29) 22 rfl 3 (.int .i64 0) 1 8 Try.underlying22 infoI rfl (by decide) _ (16 * q) _ r _ rfl hrow (Owned.comm (a := [_]) HO2.out) (some ⟨w1.heap.size, 0, none⟩) 16 16 (arrC (dg x)).toList rfl rfl (fun h => by cases h) (fun ad had j u hj => by cases had; rw [add_zero_off]; exact (Owned.cell HO2.out _).trans (by simpa using hj)) hone hm1 hm2 ?_; intro v2 r2 w3 hrow2 hO3))
      obtain ⟨A2, c2, rfl⟩ := hrow2.slice
      go_wp2_with fail
      go_roundw
      case rel => exact ⟨q + 1, by omega, by go_num, r2, by rw [HS.out]; exact hrow2, Owned.drop_ (a := [_]) hO3.comm⟩
      case measure => simp [intOf]; omega
    · obtain rfl : q = n := by omega
      have HO := Lib.hid hO
      clear hO hrel
      go_wp2_with fail
      go_ret
      exact ⟨_, r, rfl, hrow, HO.out⟩
end
end Go.Proofs.Ytpdboglgjpmcdaa
