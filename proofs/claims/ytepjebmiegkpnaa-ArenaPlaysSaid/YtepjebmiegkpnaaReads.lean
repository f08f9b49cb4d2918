/- Rows of numbers that can be read. -/
import Derived.Test.YtepjebmiegkpnaaProg
import Derived.Test.YtepjebmiegkpnaaSep
import Derived.WalkKit
import Derived.Lib.Hide
import Derived.Deep.QuietTactic
import Derived.BigQuiet
import Derived.Deep.LoopGhost
import Derived.OpenShut
namespace Go.Proofs.Ytepjebmiegkpnaa
open Go.RowKit Go.Sep

def ints (l : List Int) : List Value := l.map (Value.int .i64)
theorem ints_get (l : List Int) (i : Nat) (h : i < l.length) : (ints l).toArray[i]? = some (.int .i64 (l.getD i 0)) := by
  simp [ints, List.getD, h]
theorem ints_one (l : List Int) : ∀ v ∈ ints l, v.oneCell' = true := ints_oneCell .i64 l
theorem ints_len (l : List Int) : (ints l).length = l.length := by simp [ints]

/-- A slice that reads as these numbers. -/
def Reads (w : World) (v : Value) (l : List Int) : Prop :=
  l.length ≤ 9223372036854775807 ∧ ∃ A c, v = .slice A l.length c ∧ (0 < l.length → ∃ b o, A = some ⟨b, o, none⟩ ∧ ∀ i, i < l.length → w.cell? ⟨b, o + i, none⟩ = some (.int .i64 (l.getD i 0)))
theorem Reads.below {w w' : World} {v : Value} {l : List Int} (h : Reads w v l) (hb : Below w.heap.size w w') : Reads w' v l := by
  obtain ⟨h1, A, c, rfl, h2⟩ := h
  refine ⟨h1, A, c, rfl, fun hp => ?_⟩
  obtain ⟨b, o, rfl, h3⟩ := h2 hp
  refine ⟨b, o, rfl, fun i hi => ?_⟩
  have h4 := h3 i hi
  rw [hb.cell (World.block_lt_of_cell? w _ h4)]
  exact h4
theorem Reads.drewN {w : World} {v : Value} {l : List Int} (h : Reads w v l) (n : Nat) : Reads (w.drewN n) v l := h.below ⟨rfl, rfl, rfl, Nat.le_refl _, fun _ _ => rfl⟩
theorem reads_of_row {w0 w : World} {e : TypeId} {v : Value} {l : List Int} {r F : Own} (hr : Row e 1 v l.length (ints l) r) (hl : l.length ≤ 9223372036854775807) (h : Owned w0 w (r ++ F)) : Reads w v l := by
  refine ⟨hl, ?_⟩
  rcases hr.2 with ⟨rfl, h0, rfl⟩ | ⟨g, cap, cur, rfl, rfl, h1, h2, h3, h4⟩
  · exact ⟨none, 0, by rw [h0], fun hp => by omega⟩
  · refine ⟨some ⟨g, 0, none⟩, cap, rfl, fun _ => ⟨g, 0, rfl, fun i hi => ?_⟩⟩
    refine (Owned.cell h _).trans ?_
    rw [Nat.mul_one] at h4
    have h5 : cur[i]? = (cur.toList.take l.length)[i]? := by rw [List.getElem?_take, if_pos hi]; simp
    rw [Nat.zero_add, h5, h4]
    simp [ints, List.getD, hi]
/-- a slice that came in -/
theorem reads_arg {w : World} {a : Option Addr} {len cap : Nat} {zs : List Int} (h : (a = none ∧ len = 0 ∧ cap = 0 ∧ zs = []) ∨
    ∃ x, a = some x ∧ len ≤ cap ∧ cap ≤ maxLen ∧ zs.length = cap ∧ (∀ i, i < zs.length → w.cell? (x.add i) = some (.int .i64 (zs.getD i 0))) ∧ ∀ n ∈ zs, (Lit.int .i64 n).wf = true) :
    Reads w (.slice a len cap) (zs.take len) ∧ (zs.take len).length = len ∧ ∀ n ∈ zs.take len, -9223372036854775808 ≤ n ∧ n ≤ 9223372036854775807 := by
  rcases h with ⟨rfl, rfl, rfl, rfl⟩ | ⟨x, rfl, h1, h2, h3, h4, h5⟩
  · exact ⟨⟨by simp, none, 0, rfl, fun hp => by simp at hp⟩, rfl, fun n hn => by simp at hn⟩
  · have hl : (zs.take len).length = len := by rw [List.length_take]; omega
    unfold maxLen at h2
    refine ⟨⟨by omega, some x, cap, by rw [hl], fun hp => ?_⟩, hl, fun n hn => ?_⟩
    · obtain ⟨b, off, rfl, hc⟩ := ints_at h4 (by omega)
      refine ⟨b, off, rfl, fun i hi => ?_⟩
      rw [hc i (by omega)]
      simp [List.getD, show i < len by omega]
    · have := bounds_i64 (h5 n (List.mem_of_mem_take hn)); omega
/-- a literal of numbers, just made -/
theorem reads_lit (w : World) (l : List Int) (t : TypeId) (hl : l.length ≤ 9223372036854775807) : Reads (w.alloc (.cells (ints l).toArray t)) (.slice (some ⟨w.heap.size, 0, none⟩) l.length l.length) l := by
  refine ⟨hl, some ⟨w.heap.size, 0, none⟩, l.length, rfl, fun _ => ⟨w.heap.size, 0, rfl, fun i hi => ?_⟩⟩
  rw [Nat.zero_add]
  simp only [World.cell?, heap_alloc_new]
  exact ints_get l i hi
theorem info3 : (Try.prog.info? 3).map (fun i => (i.zero, i.size, i.bytes)) = some (some (.int .i64 0), 1, 8) := by kernel_rfl
end Go.Proofs.Ytepjebmiegkpnaa
