/- append to a row of one's own, as one step of a region that draws its order. -/
import Derived.Test.YtepjebmiegkpnaaSep
import Derived.Deep.RegionLaw
import Derived.Deep.AppendLies
namespace Go.Sep
open Go Go.RowKit
section
variable {P : Program} {ops : Array Oper} {o : Oper} {a : Act} {K : Act → World → Prop} {Q : Exit → Act → World → Prop} {E : Prop}
theorem step_append_row {w0 w : World} (hgd : o.guard = none) (s x : Operand) (t : TypeId)
    (ho : o.op = .call { callee := .builtin .append, args := #[s, x], argTypes := #[t, t] })
    (e : TypeId) (z : Value) (size bytes : Nat) (ht : P.underlying t = some (.slice e)) (hinfo : (P.info? e).map (fun i => (i.zero, i.size, i.bytes)) = some (some z, size, bytes))
    (hzs : z.cells.size = size) (hsz : 0 < size)
    (v : Value) (n : Nat) (xs : List Value) (r l : Own) (hs : a.eval s = v) (hr : Row e size v n xs r) (hO : Owned w0 w (r ++ l))
    (ad : Addr) (m c : Nat) (news : List Value) (hx : a.eval x = .slice (some ad) m c) (hl : news.length = m * size) (hnews : ∀ j u, news[j]? = some u → w.cell? (ad.add j) = some u) (h1 : ∀ u ∈ news, u.oneCell' = true)
    (hm : 0 < m) (h63 : n + m ≤ maxLen) (hbytes : (n + m) * bytes ≤ 140737488355328)
    (h : ∀ g cap r' w', Row e size (.slice (some ⟨g, 0, none⟩) (n + m) cap) (n + m) (xs ++ news) r' → Owned w0 w' (r' ++ l) → K (a.put o.dst (.slice (some ⟨g, 0, none⟩) (n + m) cap)) w') :
    if Region.wanted o (yielded ops a.tmps) = true then Oper.wp P o a w K Q else E := by
  obtain ⟨i0, hi, hz0, hz1, hz2⟩ := info_parts hinfo
  refine step_append_lies w hgd s x t ho w0.heap.size e i0 z size bytes ht hi hz0 hz1 hz2 hzs hsz v n xs hs (hO.ownsRow hr) ad m c news hx hl hnews h1 hm h63 hbytes hO.size w.heap.size rfl ?_
  intro g cap w' hown hg hat _
  obtain ⟨r', hr', hO'⟩ := hO.appended hr hown hg (by
    rcases hat with hat | hat
    · exact Or.inl (by rw [hat]; rfl)
    · exact Or.inr (by rw [← hat]; rfl))
  exact h g cap r' w' hr' hO'
/-- append(v, y), y one cell: the variadic's box lies in the newest block. -/
theorem step_append_one {w0 w : World} (hgd : o.guard = none) (s x : Operand) (t : TypeId)
    (ho : o.op = .call { callee := .builtin .append, args := #[s, x], argTypes := #[t, t] })
    (e : TypeId) (z : Value) (bytes : Nat) (ht : P.underlying t = some (.slice e)) (hinfo : (P.info? e).map (fun i => (i.zero, i.size, i.bytes)) = some (some z, 1, bytes))
    (hzs : z.cells.size = 1) (v : Value) (n : Nat) (xs : List Value) (r l : Own) (y : Value) (hs : a.eval s = v) (hr : Row e 1 v n xs r) (hO : Owned w0 w (r ++ l))
    (hx : a.eval x = .slice (some ⟨w.heap.size, 0, none⟩) 1 1) (h1 : y.oneCell' = true) (h63 : n + 1 ≤ maxLen) (hbytes : (n + 1) * bytes ≤ 140737488355328)
    (h : ∀ g cap r' w', Row e 1 (.slice (some ⟨g, 0, none⟩) (n + 1) cap) (n + 1) (xs ++ [y]) r' → Owned w0 w' (r' ++ l) → K (a.put o.dst (.slice (some ⟨g, 0, none⟩) (n + 1) cap)) w') :
    if Region.wanted o (yielded ops a.tmps) = true then Oper.wp P o a (w.alloc (.cells #[y] e)) K Q else E :=
  step_append_row hgd s x t ho e z 1 bytes ht hinfo hzs (by omega) v n xs r l hs hr (hO.alloc_ _) ⟨w.heap.size, 0, none⟩ 1 1 [y] hx rfl (cell_one_new w y e) (by simpa using h1) (by omega) h63 hbytes h
end
end Go.Sep
