/- Rows of bools that came in. -/
import Derived.Test.YtndmbajdafecoaaClimbPlay
namespace Go.Proofs.Ytndmbajdafecoaa
open Go.RowKit Go.Sep
theorem readsb_nil (w : World) : ReadsB w (.slice none 0 0) [] := ⟨by simp, none, 0, rfl, by simp, fun _ => rfl, fun h => by simp at h⟩
theorem readsb_some {w : World} {x : Addr} {len cap : Nat} {B : Nat → Bool} (hl : len ≤ cap) (hm : cap ≤ maxLen) (hc : ∀ i, i < cap → w.cell? (x.add i) = some (.bool (B i))) :
    ReadsB w (.slice (some x) len cap) ((List.range len).map B) := by
  have hlen : ((List.range len).map B).length = len := by simp
  unfold maxLen at hm
  refine ⟨by omega, some x, cap, by rw [hlen], by omega, (fun h => by cases h), fun hp => ?_⟩
  rw [hlen] at hp ⊢
  obtain ⟨b, off, spot⟩ := x
  have hspot : spot = none := by simpa [Addr.add] using World.cell?_spot (hc 0 (by omega))
  subst hspot
  refine ⟨b, off, rfl, fun i hi => ?_⟩
  rw [← Go.WideShapes.add_plain, hc i (by omega)]
  simp [List.getD, hi]
end Go.Proofs.Ytndmbajdafecoaa
