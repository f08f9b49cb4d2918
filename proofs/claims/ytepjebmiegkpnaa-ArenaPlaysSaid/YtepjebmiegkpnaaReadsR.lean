/- Rows of small arrays, or structs, of numbers that came in. -/
import Derived.Test.YtepjebmiegkpnaaProg
import Derived.WalkKit
import Derived.OpenShut
import Derived.Deep.Slices
import Derived.Deep.Fields
import Derived.ChangeSame
namespace Go.Proofs.Ytepjebmiegkpnaa
open Go.RowKit Go.Deep Go.ChangeShapes Go.WideShapes
/-- A slice of n numbers an element: f: element, place. -/
def ReadsR (n : Nat) (w : World) (v : Value) (len : Nat) (f : Nat → Nat → Int) : Prop :=
  len ≤ 9223372036854775807 ∧ (∀ i j, i < len → j < n → -9223372036854775808 ≤ f i j ∧ f i j ≤ 9223372036854775807) ∧
  ∃ A c, v = .slice A len c ∧ (0 < len → ∃ b o, A = some ⟨b, o, none⟩ ∧ ∀ i j, i < len → j < n → w.cell? ⟨b, o + (i * n + j), none⟩ = some (.int .i64 (f i j)))
section
variable {H : Type} {enc : TypeId × Value → H} {P : Program} {w : World} {base : Nat} {spare : Nat → Bool} {held : Bool}
theorem readsr_of {n len cap m : Nat} {a : Addr} (hn : 0 < n) (hl : len ≤ cap) (hc : cap ≤ maxLen) (hm : len ≤ m) (h : ∀ i, i < m → ∀ j, j < n → ∃ x : Int, w.cell? (a.add (i * n + j)) = some (.int .i64 x) ∧ (Lit.int .i64 x).wf = true) :
    ∃ f, ReadsR n w (.slice (some a) len cap) len f := by
  unfold maxLen at hc
  by_cases h0 : len = 0
  · subst h0
    exact ⟨fun _ _ => 0, by omega, fun i j hi => by omega, some a, cap, rfl, fun hp => by omega⟩
  obtain ⟨F, hF⟩ := choose_lt (p := fun i (g : Nat → Int) => ∀ j, j < n → w.cell? (a.add (i * n + j)) = some (.int .i64 (g j)) ∧ (Lit.int .i64 (g j)).wf = true) (fun i hi => choose_lt (h i hi))
  refine ⟨F, by omega, fun i j hi hj => bounds_i64 (hF i (by omega) j hj).2, some a, cap, rfl, fun _ => ?_⟩
  obtain ⟨b, off, spot⟩ := a
  have hspot : spot = none := by
    have := (hF 0 (by omega) 0 hn).1
    simpa [Addr.add] using World.cell?_spot this
  subst hspot
  refine ⟨b, off, rfl, fun i j hi hj => ?_⟩
  rw [← Go.WideShapes.add_plain]
  exact (hF i (by omega) j hj).1
/-- elements that are arrays -/
theorem readsr_arg {t e k : TypeId} {n fuel len cap : Nat} {A : Option Addr} {x : DataW H × List MemPlace} (hn : 0 < n) (ht : P.underlying t = some (.slice e)) (he : P.underlying e = some (.array n k)) (hk : P.underlying k = some (.int .i64)) (hC : P.cellsOf e = n) (hK : P.cellsOf k = 1)
    (h : DataW.trod enc P w base spare held fuel t [.slice A len cap] = some x) : ∃ f, ReadsR n w (.slice A len cap) len f := by
  rcases open_slice ht h with ⟨hcs, _⟩ | ⟨a, len', cap', m, n', D, Pl, hcs, hb, hl, hm, hmm, hx, hi⟩
  · simp at hcs
    obtain ⟨rfl, rfl, rfl⟩ := hcs
    exact ⟨fun _ _ => 0, by omega, fun i j hi => by omega, none, 0, rfl, fun hp => by omega⟩
  · simp at hcs
    obtain ⟨rfl, rfl, rfl⟩ := hcs
    refine readsr_of hn hl hm (m := m) (by rw [hmm]; split <;> omega) (fun i him j hj => ?_)
    obtain ⟨cs', hc, ht'⟩ := hi i him
    rw [hC] at hc
    obtain ⟨ys, n2, _, _, hlen, hyl, hf⟩ := DataW.trod_array he ht'
    obtain ⟨_, hcl, hat⟩ := World.cells?_some hc
    have hcell := hat j hj
    have h1 := hf j hj
    rw [hK, Nat.mul_one] at h1
    have hv : cs'[j]? = some (cs'[j]'(by omega)) := List.getElem?_eq_getElem (by omega)
    have hone' : (cs'.drop j).take 1 = [cs'[j]'(by omega)] := by
      rw [List.drop_eq_getElem_cons (by omega)]
      rfl
    rw [hone', List.getElem?_eq_getElem (by omega)] at h1
    obtain ⟨z, hz, _, hw⟩ := DataW.trod_int hk h1
    simp only [List.cons.injEq, and_true] at hz
    refine ⟨z, ?_, hw⟩
    rw [← Go.Deep.add_add, hcell, hv, hz]
/-- elements that are structs of numbers -/
theorem readsr_struct {t e : TypeId} {fs : Array Field} {fuel len cap : Nat} {A : Option Addr} {x : DataW H × List MemPlace} (hn : 0 < fs.size) (ht : P.underlying t = some (.slice e)) (he : P.underlying e = some (.struct fs)) (hC : P.cellsOf e = fs.size)
    (hone : oneCellFields P fs = true) (hk : ∀ j, j < fs.size → ∃ f, fs[j]? = some f ∧ P.underlying f.type = some (.int .i64))
    (h : DataW.trod enc P w base spare held fuel t [.slice A len cap] = some x) : ∃ f, ReadsR fs.size w (.slice A len cap) len f := by
  rcases open_slice ht h with ⟨hcs, _⟩ | ⟨a, len', cap', m, n', D, Pl, hcs, hb, hl, hm, hmm, hx, hi⟩
  · simp at hcs
    obtain ⟨rfl, rfl, rfl⟩ := hcs
    exact ⟨fun _ _ => 0, by omega, fun i j hi => by omega, none, 0, rfl, fun hp => by omega⟩
  · simp at hcs
    obtain ⟨rfl, rfl, rfl⟩ := hcs
    refine readsr_of hn hl hm (m := m) (by rw [hmm]; split <;> omega) (fun i him j hj => ?_)
    obtain ⟨cs', hc, ht'⟩ := hi i him
    rw [hC] at hc
    obtain ⟨ys, n2, hn2, hy, hlen, hyl, hf⟩ := DataW.trod_struct he ht'
    obtain ⟨_, hcl, hat⟩ := World.cells?_some hc
    obtain ⟨f, hjf, hki⟩ := hk j hj
    obtain ⟨ho, hkk⟩ := hone_of hone j f hjf
    have hcell := hat j hj
    have h1 := hf j f hjf
    rw [ho, hkk] at h1
    have hv : cs'[j]? = some (cs'[j]'(by omega)) := List.getElem?_eq_getElem (by omega)
    have hone' : (cs'.drop j).take 1 = [cs'[j]'(by omega)] := by
      rw [List.drop_eq_getElem_cons (by omega)]
      rfl
    rw [hone', List.getElem?_eq_getElem (by omega)] at h1
    obtain ⟨z, hz, _, hw⟩ := DataW.trod_int hki h1
    simp only [List.cons.injEq, and_true] at hz
    refine ⟨z, ?_, hw⟩
    rw [← Go.Deep.add_add, hcell, hv, hz]
end
end Go.Proofs.Ytepjebmiegkpnaa
