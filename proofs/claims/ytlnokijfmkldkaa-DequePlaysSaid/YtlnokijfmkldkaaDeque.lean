/- Layer 7: nodes in rows, linked, in memory: what a store into one of them leaves. -/
import Derived.Test.YtlnokijfmkldkaaProg
import Derived.Test.YtlnokijfmkldkaaLook
import Derived.Test.YtlnokijfmkldkaaDqPure
namespace Go.Proofs.Ytlnokijfmkldkaa
open Go.RowKit Go.Sep DqPure
def nptr (b : Nat) : Value := .pointer (some ⟨b, 0, none⟩)
def elemO (id wt : Int) (li pv nx : Nat) : Obj := .cells #[.int .i64 id, .int .i64 wt, nptr li, nptr pv, nptr nx] 54 (0, 0)
def listO (k : Nat) (wt : Int) (len pv nx : Nat) : Obj := .cells #[.int .i64 0, .int .i64 0, .pointer none, nptr pv, nptr nx, .int .i64 (k : Int), .int .i64 wt, .int .i64 (len : Int)] 56 (0, 0)
theorem list_ne_elem {k : Nat} {wt : Int} {len pv nx : Nat} {id wt' : Int} {li pv' nx' : Nat} : listO k wt len pv nx ≠ elemO id wt' li pv' nx' := by
  intro h
  unfold listO elemO at h
  simp at h
def updI (f : Nat → Int) (i : Nat) (v : Int) : Nat → Int := fun j => if j = i then v else f j
theorem updI_same (f : Nat → Int) (i : Nat) (v : Int) : updI f i v i = v := by unfold updI; rw [if_pos rfl]
theorem updI_ne (f : Nat → Int) {i j : Nat} (v : Int) (h : j ≠ i) : updI f i v j = f j := by unfold updI; rw [if_neg h]
def isNode (m : Nat) (L : Nat → Nat) (B : Nat → Prop) (b : Nat) : Prop := B b ∨ ∃ k, k < m ∧ b = L k
/-- rows' ends (m of them, at L k) and elements (those of B) as they stand in memory -/
structure Nodes (X : Own) (m : Nat) (L : Nat → Nat) (B : Nat → Prop) (nx pv li : Nat → Nat) (id wt : Nat → Int) (LW : Nat → Int) (LN : Nat → Nat) (r : Own) : Prop where
  lst : ∀ k, k < m → lookB r (L k) = some (listO k (LW k) (LN k) (pv (L k)) (nx (L k)))
  el : ∀ b, B b → lookB r b = some (elemO (id b) (wt b) (li b) (pv b) (nx b))
  dL : ∀ j k, j < m → k < m → j ≠ k → L j ≠ L k
  oth : ∀ p ∈ X, lookB r p.1 = some p.2 ∧ ¬ isNode m L B p.1
section
variable {X : Own} {m : Nat} {L : Nat → Nat} {B : Nat → Prop} {nx pv li : Nat → Nat} {id wt : Nat → Int} {LW : Nat → Int} {LN : Nat → Nat} {r : Own}
theorem Nodes.sep (h : Nodes X m L B nx pv li id wt LW LN r) {k b : Nat} (hk : k < m) (hb : B b) : b ≠ L k := by
  intro e
  have h1 := h.el b hb
  rw [e, h.lst k hk] at h1
  exact list_ne_elem (Option.some.inj h1)
theorem Nodes.keep (h : Nodes X m L B nx pv li id wt LW LN r) {c : Nat} (hc : isNode m L B c) (o : Obj) : ∀ p ∈ X, lookB (setBk r c o) p.1 = some p.2 ∧ ¬ isNode m L B p.1 :=
  fun p hp => ⟨(look_setBk_ne _ _ (fun e => (h.oth p hp).2 (by rw [e]; exact hc))).trans (h.oth p hp).1, (h.oth p hp).2⟩
/-- what stands at a node, and what a store there leaves -/
theorem Nodes.setNx (h : Nodes X m L B nx pv li id wt LW LN r) {c : Nat} (hc : isNode m L B c) (v : Nat) : ∃ cs t, lookB r c = some (.cells cs t (0, 0)) ∧ cs[3]? = some (nptr (pv c)) ∧ cs[4]? = some (nptr (nx c)) ∧
    Nodes X m L B (upd nx c v) pv li id wt LW LN (setBk r c (.cells (cs.setIfInBounds 4 (nptr v)) t (0, 0))) := by
  have hkp := fun o => h.keep hc o
  rcases hc with hb | ⟨k, hk, rfl⟩
  · have h1 := h.el c hb
    refine ⟨_, _, h1, rfl, rfl, fun j hj => ?_, fun b hb' => ?_, h.dL, hkp _⟩
    · have hne := h.sep hj hb
      rw [look_setBk_ne _ _ (Ne.symm hne), upd_ne _ _ (Ne.symm hne)]
      exact h.lst j hj
    · by_cases e : b = c
      · subst e
        rw [look_setBk_same _ h1, upd_same]
        rfl
      · rw [look_setBk_ne _ _ e, upd_ne _ _ e]
        exact h.el b hb'
  · have h1 := h.lst k hk
    refine ⟨_, _, h1, rfl, rfl, fun j hj => ?_, fun b hb' => ?_, h.dL, hkp _⟩
    · by_cases e : j = k
      · subst e
        rw [look_setBk_same _ h1, upd_same]
        rfl
      · have hne := h.dL j k hj hk e
        rw [look_setBk_ne _ _ hne, upd_ne _ _ hne]
        exact h.lst j hj
    · have hne := h.sep hk hb'
      rw [look_setBk_ne _ _ hne, upd_ne _ _ hne]
      exact h.el b hb'
theorem Nodes.setPv (h : Nodes X m L B nx pv li id wt LW LN r) {c : Nat} (hc : isNode m L B c) (v : Nat) : ∃ cs t, lookB r c = some (.cells cs t (0, 0)) ∧ cs[3]? = some (nptr (pv c)) ∧ cs[4]? = some (nptr (nx c)) ∧
    Nodes X m L B nx (upd pv c v) li id wt LW LN (setBk r c (.cells (cs.setIfInBounds 3 (nptr v)) t (0, 0))) := by
  have hkp := fun o => h.keep hc o
  rcases hc with hb | ⟨k, hk, rfl⟩
  · have h1 := h.el c hb
    refine ⟨_, _, h1, rfl, rfl, fun j hj => ?_, fun b hb' => ?_, h.dL, hkp _⟩
    · have hne := h.sep hj hb
      rw [look_setBk_ne _ _ (Ne.symm hne), upd_ne _ _ (Ne.symm hne)]
      exact h.lst j hj
    · by_cases e : b = c
      · subst e
        rw [look_setBk_same _ h1, upd_same]
        rfl
      · rw [look_setBk_ne _ _ e, upd_ne _ _ e]
        exact h.el b hb'
  · have h1 := h.lst k hk
    refine ⟨_, _, h1, rfl, rfl, fun j hj => ?_, fun b hb' => ?_, h.dL, hkp _⟩
    · by_cases e : j = k
      · subst e
        rw [look_setBk_same _ h1, upd_same]
        rfl
      · have hne := h.dL j k hj hk e
        rw [look_setBk_ne _ _ hne, upd_ne _ _ hne]
        exact h.lst j hj
    · have hne := h.sep hk hb'
      rw [look_setBk_ne _ _ hne, upd_ne _ _ hne]
      exact h.el b hb'
theorem Nodes.setLi (h : Nodes X m L B nx pv li id wt LW LN r) {c : Nat} (hb : B c) (v : Nat) :
    Nodes X m L B nx pv (upd li c v) id wt LW LN (setBk r c (elemO (id c) (wt c) v (pv c) (nx c))) := by
  have h1 := h.el c hb
  refine ⟨fun j hj => ?_, fun b hb' => ?_, h.dL, h.keep (Or.inl hb) _⟩
  · rw [look_setBk_ne _ _ (Ne.symm (h.sep hj hb))]
    exact h.lst j hj
  · by_cases e : b = c
    · subst e
      rw [look_setBk_same _ h1, upd_same]
    · rw [look_setBk_ne _ _ e, upd_ne _ _ e]
      exact h.el b hb'
theorem Nodes.setWt (h : Nodes X m L B nx pv li id wt LW LN r) {c : Nat} (hb : B c) (v : Int) :
    Nodes X m L B nx pv li id (updI wt c v) LW LN (setBk r c (elemO (id c) v (li c) (pv c) (nx c))) := by
  have h1 := h.el c hb
  refine ⟨fun j hj => ?_, fun b hb' => ?_, h.dL, h.keep (Or.inl hb) _⟩
  · rw [look_setBk_ne _ _ (Ne.symm (h.sep hj hb))]
    exact h.lst j hj
  · by_cases e : b = c
    · subst e
      rw [look_setBk_same _ h1, updI_same]
    · rw [look_setBk_ne _ _ e, updI_ne _ _ e]
      exact h.el b hb'
theorem Nodes.setL (h : Nodes X m L B nx pv li id wt LW LN r) {k : Nat} (hk : k < m) (x : Int) (n : Nat) :
    Nodes X m L B nx pv li id wt (updI LW k x) (upd LN k n) (setBk r (L k) (listO k x n (pv (L k)) (nx (L k)))) := by
  have h1 := h.lst k hk
  refine ⟨fun j hj => ?_, fun b hb' => ?_, h.dL, h.keep (Or.inr ⟨k, hk, rfl⟩) _⟩
  · by_cases e : j = k
    · subst e
      rw [look_setBk_same _ h1, updI_same, upd_same]
    · rw [look_setBk_ne _ _ (h.dL j k hj hk e), updI_ne _ _ e, upd_ne _ _ e]
      exact h.lst j hj
  · rw [look_setBk_ne _ _ (h.sep hk hb')]
    exact h.el b hb'
theorem Nodes.mono {B' : Nat → Prop} (h : Nodes X m L B nx pv li id wt LW LN r) (hB : ∀ b, B' b → B b) : Nodes X m L B' nx pv li id wt LW LN r :=
  ⟨h.lst, fun b hb => h.el b (hB b hb), h.dL, fun p hp => ⟨(h.oth p hp).1, fun hn => (h.oth p hp).2 (by
    rcases hn with hn | hn
    · exact Or.inl (hB _ hn)
    · exact Or.inr hn)⟩⟩
/-- a block becomes an element (again) -/
theorem Nodes.take {b l p : Nat} {i x : Int} {ob : Obj} (h : Nodes X m L B nx pv li id wt LW LN r) (hr : lookB r b = some ob) (hn : ∀ k, k < m → b ≠ L k) (hX : ∀ p ∈ X, p.1 ≠ b) :
    Nodes X m L (fun c => B c ∨ c = b) (upd nx b l) (upd pv b p) (upd li b l) (updI id b i) (updI wt b x) LW LN (setBk r b (elemO i x l p l)) := by
  refine ⟨fun k hk => ?_, fun c hc => ?_, h.dL, fun q hq => ⟨(look_setBk_ne _ _ (hX q hq)).trans (h.oth q hq).1, ?_⟩⟩
  · rw [look_setBk_ne _ _ (Ne.symm (hn k hk)), upd_ne _ _ (Ne.symm (hn k hk)), upd_ne _ _ (Ne.symm (hn k hk))]
    exact h.lst k hk
  · by_cases e : c = b
    · subst e
      rw [look_setBk_same _ hr, upd_same, upd_same, upd_same, updI_same, updI_same]
    · rw [look_setBk_ne _ _ e, upd_ne _ _ e, upd_ne _ _ e, upd_ne _ _ e, updI_ne _ _ e, updI_ne _ _ e]
      rcases hc with hc | hc
      · exact h.el c hc
      · exact absurd hc e
  · rintro ((hb | hb) | hl)
    · exact (h.oth q hq).2 (Or.inl hb)
    · exact hX q hq hb
    · exact (h.oth q hq).2 (Or.inr hl)
end
end Go.Proofs.Ytlnokijfmkldkaa
