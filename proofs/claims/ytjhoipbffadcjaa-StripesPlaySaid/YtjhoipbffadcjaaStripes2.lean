/- Layer 13: stripes: what one ring does behind the interface. -/
import Derived.Test.YtjhoipbffadcjaaStripes
namespace Go.Proofs.Ytjhoipbffadcjaa
open Go.RowKit Go.Sep
section
variable {g n lost : Nat} {L : List Int} {w0 w : World} {F r : Own}
theorem m_len (g : Nat) (w : World) : (method 182 45 (.pointer (some ⟨g, 0, none⟩)) "Len").run Try.prog w = .ok (61, .pointer (some ⟨g, 0, none⟩)) w := by kernel_rfl
theorem m_lost (g : Nat) (w : World) : (method 182 45 (.pointer (some ⟨g, 0, none⟩)) "Lost").run Try.prog w = .ok (62, .pointer (some ⟨g, 0, none⟩)) w := by kernel_rfl
theorem m_offer (g : Nat) (w : World) : (method 182 45 (.pointer (some ⟨g, 0, none⟩)) "Offer").run Try.prog w = .ok (63, .pointer (some ⟨g, 0, none⟩)) w := by kernel_rfl
theorem m_take (g : Nat) (w : World) : (method 182 45 (.pointer (some ⟨g, 0, none⟩)) "Take").run Try.prog w = .ok (64, .pointer (some ⟨g, 0, none⟩)) w := by kernel_rfl
theorem m_drain (g : Nat) (w : World) : (method 182 45 (.pointer (some ⟨g, 0, none⟩)) "Drain").run Try.prog w = .ok (60, .pointer (some ⟨g, 0, none⟩)) w := by kernel_rfl
theorem nil_offer (g : Nat) (w : World) : (nilAhead 182 45 (.pointer (some ⟨g, 0, none⟩)) "Offer").run Try.prog w = .ok (some false) w := by kernel_rfl
set_option maxHeartbeats 800000 in
theorem len1_calls (hr : Ring g n L lost r) (h : Owned w0 w (r ++ F)) : Calls Try.prog 31 #[ifc g] w fun e w' => e = .returned (.int .i64 (L.length : Int)) ∧ w = w' := by
  have c := ring_len_calls hr h
  have hm := m_len g
  clear h hr
  unfold ifc
  go_enter Try.func31, Try.ntmps31
  go_wp2_with fail
  go_at_call 61
  refine (c).mono ?_
  rintro e w1 ⟨rfl, rfl⟩
  go_wp2_with fail
  go_ret
  exact ⟨rfl, rfl⟩
set_option maxHeartbeats 800000 in
theorem lost1_calls (hr : Ring g n L lost r) (h : Owned w0 w (r ++ F)) : Calls Try.prog 30 #[ifc g] w fun e w' => e = .returned (.int .i64 (lost : Int)) ∧ w = w' := by
  have c := ring_lost_calls hr h
  have hm := m_lost g
  clear h hr
  unfold ifc
  go_enter Try.func30, Try.ntmps30
  go_wp2_with fail
  go_at_call 62
  refine (c).mono ?_
  rintro e w1 ⟨rfl, rfl⟩
  go_wp2_with fail
  go_ret
  exact ⟨rfl, rfl⟩
end
end Go.Proofs.Ytjhoipbffadcjaa
