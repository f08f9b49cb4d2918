/- Contracts of the document's door (pantryref04): put, clear, ones, new. -/
import Derived.Test.YtachbhgfcdnhdaaDoorRef
import Derived.Deep.RegionWith
namespace Go.Proofs.Ytachbhgfcdnhdaa
open Go.RowKit Go.Sep DoorPure
section
variable {g b : Nat} {seed : Int} {B : List Bool} {w0 w : World} {F : Own}
set_option maxHeartbeats 1600000 in
theorem rput (key : Int) (hl0 : 1 ≤ B.length) (hl1 : B.length ≤ 1000000) (h : Owned w0 w (rdB g b seed B ++ F)) :
    Calls Try.prog 24 #[.pointer (some ⟨g, 0, none⟩), .int .i64 key] w fun e w' => e = .returned (.bool (hasB seed key B)) ∧ Owned w0 w' (rdB g b seed (putB seed key B) ++ F) := by
  have ch := rhas key hl0 hl1 h
  have a0 := fun W (hW : Owned w0 W (rdB g b seed B ++ F)) => rat0 key hl1 hW
  have p0 := plc_lt seed key 0 hl0
  have p1 := plc_lt seed key 1 hl0
  have a1 := fun W (hW : Owned w0 W (rdB g b seed (B.set (plc seed key 0 B.length) true) ++ F)) => rat1 key (by rw [List.length_set]; exact hl1) hW
  rw [List.length_set] at a1
  unfold putB
  generalize plc seed key 0 B.length = i at *
  generalize plc seed key 1 B.length = j at *
  generalize hasB seed key B = had at *
  obtain ⟨n, hn⟩ : ∃ n, B.length = n := ⟨_, rfl⟩
  have hn2 : (B.set i true).length = n := by rw [List.length_set]; exact hn
  have F0 : ∀ W, Owned w0 W (rdB g b seed B ++ F) → W.cell? ⟨g, 1, none⟩ = some (.slice (some ⟨b, 0, none⟩) n n) ∧ W.frozen? ⟨b, i, none⟩ = false ∧ W.cell? ⟨b, i, none⟩ = some (.bool (B.getD i false)) := fun W hW => ⟨by rw [← hn]; exact rd_c1 hW, rd_free hW _, rd_bit hW p0⟩
  have F1 : ∀ W, Owned w0 W (rdB g b seed (B.set i true) ++ F) → W.cell? ⟨g, 1, none⟩ = some (.slice (some ⟨b, 0, none⟩) n n) ∧ W.frozen? ⟨b, j, none⟩ = false ∧ W.cell? ⟨b, j, none⟩ = some (.bool ((B.set i true).getD j false)) := fun W hW => ⟨by rw [← hn2]; exact rd_c1 hW, rd_free hW _, rd_bit hW (by rw [List.length_set]; exact p1)⟩
  have HF0 := Lib.hid F0
  have HF1 := Lib.hid F1
  have k0 : ((i : Nat) : Int) < (n : Int) := by omega
  have k1 : ((j : Nat) : Int) < (n : Int) := by omega
  have k2 : (0 : Int) ≤ ((i : Nat) : Int) := by omega
  have k3 : (0 : Int) ≤ ((j : Nat) : Int) := by omega
  have HO := Lib.hid h
  clear F0 F1 p0 p1 hn hn2 h hl0 hl1
  go_enter Try.func24, Try.ntmps24
  go_wp2_with fail
  go_at_call 28
  refine (ch).mono ?_
  rintro e w1 ⟨rfl, hb1⟩
  have HO1 := Lib.hid (HO.out.under hb1)
  clear HO ch
  obtain ⟨q0, q1, q2⟩ := HF0.out _ HO1.out
  go_wp2_with fail
  go_region_with ((go_at_call 38; (with_reducible refine (a0 _ HO1.out.drew).mono ?_); rintro e w2 ⟨rfl, hb2⟩; have HO2 := Lib.hid (HO1.out.drew.under hb2); obtain ⟨r0, r1, r2⟩ := HF0.out _ HO2.out))
  all_goals
    have HO3 := Lib.hid (owned_bit HO2.out i true)
    clear HO1 HO2 q0 q1 q2 r0 r1 r2 hb1 hb2
    obtain ⟨q0, q1, q2⟩ := HF1.out _ HO3.out
    go_wp2_with fail
    go_region_with ((go_at_call 38; (with_reducible refine (a1 _ HO3.out.drew).mono ?_); rintro e w4 ⟨rfl, hb4⟩; have HO4 := Lib.hid (HO3.out.drew.under hb4); obtain ⟨r0, r1, r2⟩ := HF1.out _ HO4.out))
    all_goals
      have HO5 := Lib.hid (owned_bit HO4.out j true)
      go_wp2_with fail
      go_ret
      exact ⟨rfl, HO5.out⟩
end
end Go.Proofs.Ytachbhgfcdnhdaa
