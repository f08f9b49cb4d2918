/- Layer 7: the rows and their index: the state in memory; what only reads it. -/
import Derived.Test.YtlnokijfmkldkaaDqL
import Derived.Test.YtlnokijfmkldkaaDeque2
namespace Go.Proofs.Ytlnokijfmkldkaa
open Go.RowKit Go.Sep DqPure
def LoO (v : Value) (bm : Nat) : Obj := .cells #[v, .map (some bm)] 50 (0, 0)
structure DqIn (bx m n : Nat) (v : Value) (bm : Nat) (q : Own) (L : Nat → Nat) (S : Nat → List Nat) (nx pv li : Nat → Nat) (id wt : Nat → Int) (LW : Nat → Int) (LN : Nat → Nat) (f : Int → Nat) (o : Obj) (r : Own) : Prop where
  l : DqL ((bm, o) :: (bx, LoO v bm) :: q) m L S nx pv li id wt LW LN r
  xn : (bm :: bx :: q.map (·.1)).Nodup
  row : Row 51 1 v m ((List.range m).map (fun k => nptr (L k))) q
  m16 : m ≤ 16
  map : OfMap n f o
  fm : ∀ k, k < m → ∀ b ∈ S k, f (id b) = b + 1
  fc : ∀ x, f x ≠ 0 → ∃ k b, k < m ∧ b ∈ S k ∧ f x = b + 1 ∧ id b = x
  tot : totl S m ≤ n
def DqAt (bx m n : Nat) (st : Nat → List (Int × Int)) (r : Own) : Prop :=
  ∃ v bm q L S nx pv li id wt LW LN f o, DqIn bx m n v bm q L S nx pv li id wt LW LN f o r ∧ ∀ k, k < m → st k = (S k).map (fun b => (id b, wt b))
section
variable {bx m n bm : Nat} {v : Value} {q r F : Own} {L : Nat → Nat} {S : Nat → List Nat} {nx pv li : Nat → Nat} {id wt LW : Nat → Int} {LN : Nat → Nat} {f : Int → Nat} {o : Obj} {w0 w : World}
theorem DqIn.cx (h : DqIn bx m n v bm q L S nx pv li id wt LW LN f o r) (hO : Owned w0 w (r ++ F)) : w.cell? ⟨bx, 0, none⟩ = some v ∧ w.cell? ⟨bx, 1, none⟩ = some (.map (some bm)) := by
  have e := (h.l.nodes.oth (bx, LoO v bm) (by simp)).1
  exact ⟨(hO.look_cell e 0).trans rfl, (hO.look_cell e 1).trans rfl⟩
theorem DqIn.om (h : DqIn bx m n v bm q L S nx pv li id wt LW LN f o r) : lookB r bm = some o := (h.l.nodes.oth (bm, o) (by simp)).1
theorem DqIn.rows (h : DqIn bx m n v bm q L S nx pv li id wt LW LN f o r) : ∃ A c, v = .slice A m c ∧ (0 < m → ∃ b, A = some ⟨b, 0, none⟩ ∧ ∀ w, Owned w0 w (r ++ F) → ∀ k, k < m → w.cell? ⟨b, k, none⟩ = some (nptr (L k))) := by
  obtain ⟨hl, hc⟩ := h.row
  have hq := h.l.nodes.oth
  rcases hc with ⟨rfl, rfl, rfl⟩ | ⟨b, cap, cur, rfl, rfl, h1, h2, h3, h4⟩
  · exact ⟨none, 0, rfl, fun h => absurd h (by omega)⟩
  · refine ⟨some ⟨b, 0, none⟩, cap, rfl, fun _ => ⟨b, rfl, fun W hO i hi => ?_⟩⟩
    have e := (hq (b, .cells cur 51 (0, 0)) (by simp)).1
    refine (hO.look_cell e i).trans ?_
    have h5 : cur[i]? = (cur.toList.take (m * 1))[i]? := by rw [List.getElem?_take, if_pos (by omega)]; simp
    rw [h5, h4]
    simp [hi]
set_option maxHeartbeats 800000 in
theorem dq_row_none {k : Int} (h : DqIn bx m n v bm q L S nx pv li id wt LW LN f o r) (hk : k < 0 ∨ (m : Int) ≤ k) (hO : Owned w0 w (r ++ F)) :
    Calls Try.prog 28 #[.pointer (some ⟨bx, 0, none⟩), .int .i64 k] w fun e w' => e = .returned (.pointer none) ∧ w' = w := by
  obtain ⟨c0, -⟩ := h.cx hO
  obtain ⟨A, c, rfl, -⟩ := h.rows (w0 := w0) (F := F)
  clear h hO
  by_cases hk0 : k < 0
  · have hd : decide (k < 0) = true := by simpa using hk0
    go_enter Try.func28, Try.ntmps28
    go_wp2_with fail
    go_ret
    exact ⟨rfl, rfl⟩
  · have hd : decide (k < 0) = false := by simpa using hk0
    have hd2 : decide ((m : Int) ≤ k) = true := by simp; omega
    go_enter Try.func28, Try.ntmps28
    go_wp2_with fail
    go_ret
    exact ⟨rfl, rfl⟩
set_option maxHeartbeats 800000 in
theorem dq_row_some {k : Nat} (h : DqIn bx m n v bm q L S nx pv li id wt LW LN f o r) (hk : k < m) (hO : Owned w0 w (r ++ F)) :
    Calls Try.prog 28 #[.pointer (some ⟨bx, 0, none⟩), .int .i64 (k : Int)] w fun e w' => e = .returned (.pointer (some ⟨L k, 0, none⟩)) ∧ w' = w := by
  obtain ⟨c0, -⟩ := h.cx hO
  obtain ⟨A, c, rfl, hA⟩ := h.rows (w0 := w0) (F := F)
  obtain ⟨b, rfl, hc⟩ := hA (by omega)
  have cx := hc w hO k hk
  unfold nptr at cx
  have hd : decide ((k : Int) < 0) = false := by simp
  have hd2 : decide ((m : Int) ≤ (k : Int)) = false := by simp; omega
  clear h hO hA hc
  go_enter Try.func28, Try.ntmps28
  go_wp2_with fail
  go_ret
  exact ⟨rfl, rfl⟩
set_option maxHeartbeats 800000 in
theorem dq_fine (x : Int) : Calls Try.prog 29 #[.int .i64 x] w fun e w' => e = .returned (.bool (decide (0 ≤ x) && decide (x ≤ 2147483648))) ∧ w' = w := by
  by_cases h0 : 0 ≤ x
  · have hd : decide (0 ≤ x) = true := by simpa using h0
    go_enter Try.func29, Try.ntmps29
    go_wp2_with fail
    go_ret
    exact ⟨by simp [h0], rfl⟩
  · have hd : decide (0 ≤ x) = false := by simpa using h0
    go_enter Try.func29, Try.ntmps29
    go_wp2_with fail
    go_ret
    exact ⟨by simp, rfl⟩
end
end Go.Proofs.Ytlnokijfmkldkaa
