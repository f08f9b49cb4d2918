/- Contracts of the document's door (pantryref04): clear, ones, new. -/
import Derived.Test.YtachbhgfcdnhdaaDoorRef
namespace Go.Proofs.Ytachbhgfcdnhdaa
open Go.RowKit Go.Sep DoorPure
theorem cnt_take (B : List Bool) (k : Nat) (h : k < B.length) : cnt (B.take (k + 1)) = cnt (B.take k) + if B.getD k false = true then 1 else 0 := by
  rw [List.take_succ_eq_append_getElem h, cnt_append]
  have e : B.getD k false = B[k] := by simp [List.getD, h]
  rw [e]
  cases B[k] <;> rfl
theorem info_bool : (Try.prog.info? 4).map (fun i => (i.zero, i.size, i.bytes)) = some (some (.bool false), 1, 1) := by kernel_rfl
section
variable {g b : Nat} {seed : Int} {B : List Bool} {w0 w : World} {F : Own}
/-- the bits ahead of a place are off -/
def OffTo (w0 : World) (F : Own) (g b : Nat) (seed : Int) (n k : Nat) (w : World) : Prop := ∃ B, Owned w0 w (rdB g b seed B ++ F) ∧ B.length = n ∧ ∀ t, t < k → B.getD t false = false
set_option maxHeartbeats 800000 in
theorem rclear (hl1 : B.length ≤ 1000000) (h : Owned w0 w (rdB g b seed B ++ F)) :
    Calls Try.prog 26 #[.pointer (some ⟨g, 0, none⟩)] w fun e w' => e = .returned (.tuple #[]) ∧ Owned w0 w' (rdB g b seed (List.replicate B.length false) ++ F) := by
  have HO := Lib.hid (show OffTo w0 F g b seed B.length 0 w from ⟨B, h, rfl, fun t ht => by omega⟩)
  clear h
  generalize B.length = n at *
  go_enter Try.func26, Try.ntmps26
  go_wp2
  go_loopw [2] (fun x2 wr => ∃ k : Nat, k ≤ n ∧ x2 = .int .i64 k ∧ Hid (OffTo w0 F g b seed n k wr)) (fun x2 _ => n - (intOf x2).toNat)
  case atStart => exact ⟨0, by omega, rfl, HO⟩
  case round =>
    clear HO
    obtain ⟨k, hk, rfl, hrel⟩ := hrel
    obtain ⟨B, hO, hlen, hoff⟩ := hrel.out
    have c1 := rd_c1 hO
    rw [hlen] at c1
    by_cases hlt : k < n
    · have c2 := rd_bit hO (show k < B.length by omega)
      have c3 := rd_free hO k
      have HO2 := Lib.hid (owned_bit hO k false)
      have HOFF := Lib.hid hoff
      have HLEN := Lib.hid hlen
      clear hO hoff hrel hlen
      go_wp2_with fail
      go_roundw
      case rel =>
        refine ⟨k + 1, by omega, by go_num, _, HO2.out, by rw [List.length_set]; exact HLEN.out, fun t ht => ?_⟩
        rw [getD_setB]
        split
        · rfl
        · next hne =>
          have hne2 : k ≠ t := fun e => hne ⟨e, by rw [HLEN.out]; exact hlt⟩
          exact HOFF.out t (by omega)
      case measure => simp [intOf]; omega
    · have e : B = List.replicate n false := by
        apply ext_getD (by rw [List.length_replicate, hlen])
        intro t ht
        rw [hoff t (by omega)]
        simp [List.getD, show t < n by omega]
      rw [e] at hO
      have HO := Lib.hid hO
      clear hO hoff hrel e hlen
      go_wp2_with fail
      go_end0
      exact ⟨rfl, HO.out⟩
set_option maxHeartbeats 800000 in
theorem rnew (width seed : Int) (h : Owned w0 w F) :
    Calls Try.prog 20 #[.int .i64 width, .int .i64 seed] w fun e w' => ∃ g b, e = .returned (.pointer (some ⟨g, 0, none⟩)) ∧ Owned w0 w' (rdB g b seed (List.replicate (8 * capN width) false) ++ F) := by
  have hc := refceil_calls width 16 65536 4 16 rfl rfl (by omega) (by omega)
  obtain ⟨_, k1, k2⟩ := capN_in width
  have e0 : P2 (up width 4 (16 - 4)) = ((capN width : Nat) : Int) := P2_nat _
  rw [e0] at hc
  generalize capN width = c at *
  have hmk := fun w => run_make_row' (P := Try.prog) 67 4 (.bool false) 1 Try.underlying67 info_bool rfl .i64 .i64 (8 * c) (by omega) (by omega) w
  rw [show ((8 * c : Nat) : Int) = 8 * (c : Int) by omega] at hmk
  simp only [madeCells_one] at hmk
  have hO := (h.alloc (.cells (List.replicate (8 * c) (.bool false)).toArray 4)).alloc (.cells #[.int .i64 seed, .slice (some ⟨w.heap.size, 0, none⟩) (8 * c) (8 * c)] 69)
  have e : (List.replicate (8 * c) (Value.bool false)).toArray = (bitsV (List.replicate (8 * c) false)).toArray := by simp [bitsV]
  rw [show (w.alloc (.cells (List.replicate (8 * c) (.bool false)).toArray 4)).heap.size = w.heap.size + 1 by simp] at hO
  have HO := Lib.hid hO
  have HE := Lib.hid e
  have b1 : (c : Int) ≤ 65536 := by omega
  have b2 : (16 : Int) ≤ (c : Int) := by omega
  clear hO e h e0
  go_enter Try.func20, Try.ntmps20
  go_wp2_with fail
  go_at_call 32
  refine (hc _).mono ?_
  rintro e w1 ⟨rfl, rfl⟩
  go_wp2_with fail
  go_ret
  refine ⟨w.heap.size + 1, w.heap.size, rfl, ?_⟩
  unfold rdB
  rw [List.length_replicate, ← HE.out]
  exact HO.out
end
end Go.Proofs.Ytachbhgfcdnhdaa
