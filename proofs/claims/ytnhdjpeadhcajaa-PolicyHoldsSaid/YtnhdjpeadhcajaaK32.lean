/- Merged texts: Layer 7: each call as a step on plain lists, whatever its arguments. Rows of small arrays, or structs, of numbers that came in. append to a row of one's own, as one step of a region that draws its order. -/
import Derived.Test.YtnhdjpeadhcajaaK28
import Derived.Test.YtnhdjpeadhcajaaProg
import Derived.WalkKit
import Derived.OpenShut
import Derived.Deep.Slices
import Derived.Deep.Fields
import Derived.ChangeSame
import Derived.Test.YtnhdjpeadhcajaaK03
import Derived.Deep.RegionLaw
import Derived.Deep.AppendLies
namespace Go.Proofs.Ytnhdjpeadhcajaa
open Go.RowKit Go.Sep DqPure
abbrev Sts := Nat → List (Int × Int)
def Good (m : Nat) (k : Int) : Prop := 0 ≤ k ∧ k < (m : Int)
instance (m : Nat) (k : Int) : Decidable (Good m k) := inferInstanceAs (Decidable (0 ≤ k ∧ k < (m : Int)))
def Fine (x : Int) : Prop := 0 ≤ x ∧ x ≤ 2147483648
instance (x : Int) : Decidable (Fine x) := inferInstanceAs (Decidable (0 ≤ x ∧ x ≤ 2147483648))
inductive PushR (m : Nat) (st : Sts) (k i x : Int) : Int → Sts → Prop
  | bad (h : ¬ (Good m k ∧ 1 ≤ i ∧ i ≤ 65536 ∧ Fine x)) : PushR m st k i x 1 st
  | dup (h : Good m k ∧ 1 ≤ i ∧ i ≤ 65536 ∧ Fine x) (ha : ¬ Absent m st i) : PushR m st k i x 5 st
  | new (h : Good m k ∧ 1 ≤ i ∧ i ≤ 65536 ∧ Fine x) (ha : Absent m st i) : PushR m st k i x 0 (updS st k.toNat (st k.toNat ++ [(i, x)]))
inductive UnlinkR (m : Nat) (st : Sts) (i : Int) : Int → Sts → Prop
  | none (ha : Absent m st i) : UnlinkR m st i 3 st
  | some (k : Nat) (xs ys : List (Int × Int)) (z : Int) (hk : k < m) (hs : st k = xs ++ (i, z) :: ys) : UnlinkR m st i 0 (updS st k (xs ++ ys))
inductive MoveR (m : Nat) (st : Sts) (i k : Int) : Int → Sts → Prop
  | none (ha : Absent m st i) : MoveR m st i k 3 st
  | bad (ha : ¬ Absent m st i) (hk : ¬ Good m k) : MoveR m st i k 1 st
  | some (j : Nat) (xs ys : List (Int × Int)) (z : Int) (hj : j < m) (hs : st j = xs ++ (i, z) :: ys) (hk : Good m k) : MoveR m st i k 0 (updS (updS st j (xs ++ ys)) k.toNat (updS st j (xs ++ ys) k.toNat ++ [(i, z)]))
inductive ReweighR (m : Nat) (st : Sts) (i x : Int) : Int → Sts → Prop
  | none (ha : Absent m st i) : ReweighR m st i x 3 st
  | bad (ha : ¬ Absent m st i) (hx : ¬ Fine x) : ReweighR m st i x 1 st
  | some (j : Nat) (xs ys : List (Int × Int)) (z : Int) (hj : j < m) (hs : st j = xs ++ (i, z) :: ys) (hx : Fine x) : ReweighR m st i x 0 (updS st j (xs ++ (i, x) :: ys))
inductive OfR (m : Nat) (st : Sts) (i : Int) : Int → Int → Prop
  | none (ha : Absent m st i) : OfR m st i (-1) 0
  | some (j : Nat) (xs ys : List (Int × Int)) (z : Int) (hj : j < m) (hs : st j = xs ++ (i, z) :: ys) : OfR m st i (j : Int) z
theorem there_of {m : Nat} {st : Sts} {i z : Int} {k : Nat} {xs ys : List (Int × Int)} (hk : k < m) (hs : st k = xs ++ (i, z) :: ys) : ¬ Absent m st i := fun h => h k hk (i, z) (by rw [hs]; simp) rfl
section
variable {bx m n : Nat} {st : Sts} {r : Own} {w0 : World}
theorem dq_push_r (hn : n ≤ 1000000) (k i x : Int) (hD : DqAt bx m n st r) : ∃ c st', PushR m st k i x c st' ∧ ∀ W (X : Own), Owned w0 W (r ++ X) →
    Calls Try.prog 28 #[.pointer (some ⟨bx, 0, none⟩), .int .i64 k, .int .i64 i, .int .i64 x] W fun e w' => e = .returned (.int .i64 c) ∧ ∃ n' r', n' ≤ n + 1 ∧ DqAt bx m n' st' r' ∧ Owned w0 w' (r' ++ X) := by
  by_cases h : Good m k ∧ 1 ≤ i ∧ i ≤ 65536 ∧ Fine x
  · obtain ⟨j, rfl⟩ : ∃ j : Nat, k = (j : Int) := ⟨k.toNat, by have := h.1.1; omega⟩
    have hj : j < m := by have := h.1.2; omega
    rcases absent_or m st i with ha | ⟨l, xs, z, ys, hl, hs⟩
    · refine ⟨0, _, .new h ha, fun W X hO => (dq_push_new hn hD hj ⟨h.2.1, h.2.2.1, h.2.2.2.1, h.2.2.2.2⟩ ha hO).mono ?_⟩
      rintro e w' ⟨rfl, r', hr', hO'⟩
      exact ⟨rfl, n + 1, r', Nat.le_refl _, hr', hO'⟩
    · refine ⟨5, _, .dup h (there_of hl hs), fun W X hO => (dq_push_dup hD hj ⟨h.2.1, h.2.2.1, h.2.2.2.1, h.2.2.2.2⟩ hl hs hO).mono ?_⟩
      rintro e w' ⟨rfl, hb⟩
      exact ⟨rfl, n, r, Nat.le_succ _, hD, hO.under hb⟩
  · refine ⟨1, _, .bad h, fun W X hO => (dq_push_bad hD (fun h' => h ⟨h'.1, h'.2.1, h'.2.2.1, h'.2.2.2⟩) hO).mono ?_⟩
    rintro e w' ⟨rfl, hb⟩
    exact ⟨rfl, n, r, Nat.le_succ _, hD, hO.under hb⟩
theorem dq_unlink_r (hn : n ≤ 1000000) (i : Int) (hi : wfk i) (hD : DqAt bx m n st r) : ∃ c st', UnlinkR m st i c st' ∧ ∀ W (X : Own), Owned w0 W (r ++ X) →
    Calls Try.prog 58 #[.pointer (some ⟨bx, 0, none⟩), .int .i64 i] W fun e w' => e = .returned (.int .i64 c) ∧ ∃ n' r', n' ≤ n + 1 ∧ DqAt bx m n' st' r' ∧ Owned w0 w' (r' ++ X) := by
  rcases absent_or m st i with ha | ⟨l, xs, z, ys, hl, hs⟩
  · refine ⟨3, _, .none ha, fun W X hO => (dq_unlink_none hD hi ha hO).mono ?_⟩
    rintro e w' ⟨rfl, hb⟩
    exact ⟨rfl, n, r, Nat.le_succ _, hD, hO.under hb⟩
  · refine ⟨0, _, .some l xs ys z hl hs, fun W X hO => (dq_unlink_some hn hD hl hs hO).mono ?_⟩
    rintro e w' ⟨rfl, r', hr', hO'⟩
    exact ⟨rfl, n, r', Nat.le_succ _, hr', hO'⟩
theorem dq_move_r (hn : n ≤ 1000000) (i k : Int) (hi : wfk i) (hD : DqAt bx m n st r) : ∃ c st', MoveR m st i k c st' ∧ ∀ W (X : Own), Owned w0 W (r ++ X) →
    Calls Try.prog 57 #[.pointer (some ⟨bx, 0, none⟩), .int .i64 i, .int .i64 k] W fun e w' => e = .returned (.int .i64 c) ∧ ∃ n' r', n' ≤ n + 1 ∧ DqAt bx m n' st' r' ∧ Owned w0 w' (r' ++ X) := by
  rcases absent_or m st i with ha | ⟨l, xs, z, ys, hl, hs⟩
  · refine ⟨3, _, .none ha, fun W X hO => (dq_move_none hD hi ha hO).mono ?_⟩
    rintro e w' ⟨rfl, hb⟩
    exact ⟨rfl, n, r, Nat.le_succ _, hD, hO.under hb⟩
  · by_cases hk : Good m k
    · obtain ⟨j, rfl⟩ : ∃ j : Nat, k = (j : Int) := ⟨k.toNat, by have := hk.1; omega⟩
      refine ⟨0, _, .some l xs ys z hl hs hk, fun W X hO => (dq_move_some hn hD hl (by have := hk.2; omega) hs hO).mono ?_⟩
      rintro e w' ⟨rfl, r', hr', hO'⟩
      exact ⟨rfl, n, r', Nat.le_succ _, hr', hO'⟩
    · refine ⟨1, _, .bad (there_of hl hs) hk, fun W X hO => (dq_move_bad hD hl hs hk hO).mono ?_⟩
      rintro e w' ⟨rfl, hb⟩
      exact ⟨rfl, n, r, Nat.le_succ _, hD, hO.under hb⟩
theorem dq_reweigh_r (hn : n ≤ 1000000) (i x : Int) (hi : wfk i) (hD : DqAt bx m n st r) : ∃ c st', ReweighR m st i x c st' ∧ ∀ W (X : Own), Owned w0 W (r ++ X) →
    Calls Try.prog 30 #[.pointer (some ⟨bx, 0, none⟩), .int .i64 i, .int .i64 x] W fun e w' => e = .returned (.int .i64 c) ∧ ∃ n' r', n' ≤ n + 1 ∧ DqAt bx m n' st' r' ∧ Owned w0 w' (r' ++ X) := by
  rcases absent_or m st i with ha | ⟨l, xs, z, ys, hl, hs⟩
  · refine ⟨3, _, .none ha, fun W X hO => (dq_reweigh_none hD hi ha hO).mono ?_⟩
    rintro e w' ⟨rfl, hb⟩
    exact ⟨rfl, n, r, Nat.le_succ _, hD, hO.under hb⟩
  · by_cases hx : Fine x
    · refine ⟨0, _, .some l xs ys z hl hs hx, fun W X hO => (dq_reweigh_some hn hD hl hs hx hO).mono ?_⟩
      rintro e w' ⟨rfl, r', hr', hO'⟩
      exact ⟨rfl, n, r', Nat.le_succ _, hr', hO'⟩
    · refine ⟨1, _, .bad (there_of hl hs) hx, fun W X hO => (dq_reweigh_bad hD hl hs hx hO).mono ?_⟩
      rintro e w' ⟨rfl, hb⟩
      exact ⟨rfl, n, r, Nat.le_succ _, hD, hO.under hb⟩
theorem dq_of_r (i : Int) (hi : wfk i) (hD : DqAt bx m n st r) : ∃ a z, OfR m st i a z ∧ ∀ W (X : Own), Owned w0 W (r ++ X) →
    Calls Try.prog 56 #[.pointer (some ⟨bx, 0, none⟩), .int .i64 i] W fun e w' => e = .returned (.tuple #[.int .i64 a, .int .i64 z]) ∧ Below W.heap.size W w' := by
  rcases absent_or m st i with ha | ⟨l, xs, z, ys, hl, hs⟩
  · exact ⟨-1, 0, .none ha, fun W X hO => dq_of_none hD hi ha hO⟩
  · exact ⟨l, z, .some l xs ys z hl hs, fun W X hO => dq_of_some hD hi hl hs hO⟩
end
end Go.Proofs.Ytnhdjpeadhcajaa
namespace Go.Proofs.Ytnhdjpeadhcajaa
open Go.RowKit Go.Deep Go.ChangeShapes Go.WideShapes
/-- A slice of n numbers an element: f: element, place. -/
def ReadsR (n : Nat) (w : World) (v : Value) (len : Nat) (f : Nat → Nat → Int) : Prop :=
  len ≤ 9223372036854775807 ∧ (∀ i j, i < len → j < n → -9223372036854775808 ≤ f i j ∧ f i j ≤ 9223372036854775807) ∧
  ∃ A c, v = .slice A len c ∧ (0 < len → ∃ b o, A = some ⟨b, o, none⟩ ∧ ∀ i j, i < len → j < n → w.cell? ⟨b, o + (i * n + j), none⟩ = some (.int .i64 (f i j))) ∧ (A = none → c = 0)
section
variable {H : Type} {enc : TypeId × Value → H} {P : Program} {w : World} {base : Nat} {spare : Nat → Bool} {held : Bool}
theorem readsr_of {n len cap m : Nat} {a : Addr} (hn : 0 < n) (hl : len ≤ cap) (hc : cap ≤ maxLen) (hm : len ≤ m) (h : ∀ i, i < m → ∀ j, j < n → ∃ x : Int, w.cell? (a.add (i * n + j)) = some (.int .i64 x) ∧ (Lit.int .i64 x).wf = true) :
    ∃ f, ReadsR n w (.slice (some a) len cap) len f := by
  unfold maxLen at hc
  by_cases h0 : len = 0
  · subst h0
    exact ⟨fun _ _ => 0, by omega, fun i j hi => by omega, some a, cap, rfl, fun hp => by omega, fun e => by cases e⟩
  obtain ⟨F, hF⟩ := choose_lt (p := fun i (g : Nat → Int) => ∀ j, j < n → w.cell? (a.add (i * n + j)) = some (.int .i64 (g j)) ∧ (Lit.int .i64 (g j)).wf = true) (fun i hi => choose_lt (h i hi))
  refine ⟨F, by omega, fun i j hi hj => bounds_i64 (hF i (by omega) j hj).2, some a, cap, rfl, fun _ => ?_, fun e => by cases e⟩
  obtain ⟨b, off, spot⟩ := a
  have hspot : spot = none := by
    have := (hF 0 (by omega) 0 hn).1
    simpa [Addr.add] using World.cell?_spot this
  subst hspot
  refine ⟨b, off, rfl, fun i j hi hj => ?_⟩
  rw [← Go.WideShapes.add_plain]
  exact (hF i (by omega) j hj).1
/-- elements that are arrays -/
theorem readsr_arg {t e k : TypeId} {n fuel len cap : Nat} {A : Option Addr} {x : DataW H × List MemPlace} (hn : 0 < n) (ht : P.underlying t = some (.slice e)) (he : P.underlying e = some (.array n k)) (hk : P.underlying k = some (.int .i64)) (hC : P.cellsOf e = n) (hK : P.cellsOf k = 1)
    (h : DataW.trod enc P w base spare held fuel t [.slice A len cap] = some x) : ∃ f, ReadsR n w (.slice A len cap) len f := by
  rcases open_slice ht h with ⟨hcs, _⟩ | ⟨a, len', cap', m, n', D, Pl, hcs, hb, hl, hm, hmm, hx, hi⟩
  · simp at hcs
    obtain ⟨rfl, rfl, rfl⟩ := hcs
    exact ⟨fun _ _ => 0, by omega, fun i j hi => by omega, none, 0, rfl, fun hp => by omega, fun _ => rfl⟩
  · simp at hcs
    obtain ⟨rfl, rfl, rfl⟩ := hcs
    refine readsr_of hn hl hm (m := m) (by rw [hmm]; split <;> omega) (fun i him j hj => ?_)
    obtain ⟨cs', hc, ht'⟩ := hi i him
    rw [hC] at hc
    obtain ⟨ys, n2, _, _, hlen, hyl, hf⟩ := DataW.trod_array he ht'
    obtain ⟨_, hcl, hat⟩ := World.cells?_some hc
    have hcell := hat j hj
    have h1 := hf j hj
    rw [hK, Nat.mul_one] at h1
    have hv : cs'[j]? = some (cs'[j]'(by omega)) := List.getElem?_eq_getElem (by omega)
    have hone' : (cs'.drop j).take 1 = [cs'[j]'(by omega)] := by
      rw [List.drop_eq_getElem_cons (by omega)]
      rfl
    rw [hone', List.getElem?_eq_getElem (by omega)] at h1
    obtain ⟨z, hz, _, hw⟩ := DataW.trod_int hk h1
    simp only [List.cons.injEq, and_true] at hz
    refine ⟨z, ?_, hw⟩
    rw [← Go.Deep.add_add, hcell, hv, hz]
/-- elements that are structs of numbers -/
theorem readsr_struct {t e : TypeId} {fs : Array Field} {fuel len cap : Nat} {A : Option Addr} {x : DataW H × List MemPlace} (hn : 0 < fs.size) (ht : P.underlying t = some (.slice e)) (he : P.underlying e = some (.struct fs)) (hC : P.cellsOf e = fs.size)
    (hone : oneCellFields P fs = true) (hk : ∀ j, j < fs.size → ∃ f, fs[j]? = some f ∧ P.underlying f.type = some (.int .i64))
    (h : DataW.trod enc P w base spare held fuel t [.slice A len cap] = some x) : ∃ f, ReadsR fs.size w (.slice A len cap) len f := by
  rcases open_slice ht h with ⟨hcs, _⟩ | ⟨a, len', cap', m, n', D, Pl, hcs, hb, hl, hm, hmm, hx, hi⟩
  · simp at hcs
    obtain ⟨rfl, rfl, rfl⟩ := hcs
    exact ⟨fun _ _ => 0, by omega, fun i j hi => by omega, none, 0, rfl, fun hp => by omega, fun _ => rfl⟩
  · simp at hcs
    obtain ⟨rfl, rfl, rfl⟩ := hcs
    refine readsr_of hn hl hm (m := m) (by rw [hmm]; split <;> omega) (fun i him j hj => ?_)
    obtain ⟨cs', hc, ht'⟩ := hi i him
    rw [hC] at hc
    obtain ⟨ys, n2, hn2, hy, hlen, hyl, hf⟩ := DataW.trod_struct he ht'
    obtain ⟨_, hcl, hat⟩ := World.cells?_some hc
    obtain ⟨f, hjf, hki⟩ := hk j hj
    obtain ⟨ho, hkk⟩ := hone_of hone j f hjf
    have hcell := hat j hj
    have h1 := hf j f hjf
    rw [ho, hkk] at h1
    have hv : cs'[j]? = some (cs'[j]'(by omega)) := List.getElem?_eq_getElem (by omega)
    have hone' : (cs'.drop j).take 1 = [cs'[j]'(by omega)] := by
      rw [List.drop_eq_getElem_cons (by omega)]
      rfl
    rw [hone', List.getElem?_eq_getElem (by omega)] at h1
    obtain ⟨z, hz, _, hw⟩ := DataW.trod_int hki h1
    simp only [List.cons.injEq, and_true] at hz
    refine ⟨z, ?_, hw⟩
    rw [← Go.Deep.add_add, hcell, hv, hz]
end
end Go.Proofs.Ytnhdjpeadhcajaa
namespace Go.Sep
open Go Go.RowKit
section
variable {P : Program} {ops : Array Oper} {o : Oper} {a : Act} {K : Act → World → Prop} {Q : Exit → Act → World → Prop} {E : Prop}
theorem step_append_row {w0 w : World} (hgd : o.guard = none) (s x : Operand) (t : TypeId)
    (ho : o.op = .call { callee := .builtin .append, args := #[s, x], argTypes := #[t, t] })
    (e : TypeId) (z : Value) (size bytes : Nat) (ht : P.underlying t = some (.slice e)) (hinfo : (P.info? e).map (fun i => (i.zero, i.size, i.bytes)) = some (some z, size, bytes))
    (hzs : z.cells.size = size) (hsz : 0 < size)
    (v : Value) (n : Nat) (xs : List Value) (r l : Own) (hs : a.eval s = v) (hr : Row e size v n xs r) (hO : Owned w0 w (r ++ l))
    (ad : Addr) (m c : Nat) (news : List Value) (hx : a.eval x = .slice (some ad) m c) (hl : news.length = m * size) (hnews : ∀ j u, news[j]? = some u → w.cell? (ad.add j) = some u) (h1 : ∀ u ∈ news, u.oneCell' = true)
    (hm : 0 < m) (h63 : n + m ≤ maxLen) (hbytes : (n + m) * bytes ≤ 140737488355328)
    (h : ∀ g cap r' w', Row e size (.slice (some ⟨g, 0, none⟩) (n + m) cap) (n + m) (xs ++ news) r' → Owned w0 w' (r' ++ l) → K (a.put o.dst (.slice (some ⟨g, 0, none⟩) (n + m) cap)) w') :
    if Region.wanted o (yielded ops a.tmps) = true then Oper.wp P o a w K Q else E := by
  obtain ⟨i0, hi, hz0, hz1, hz2⟩ := info_parts hinfo
  refine step_append_lies w hgd s x t ho w0.heap.size e i0 z size bytes ht hi hz0 hz1 hz2 hzs hsz v n xs hs (hO.ownsRow hr) ad m c news hx hl hnews h1 hm h63 hbytes hO.size w.heap.size rfl ?_
  intro g cap w' hown hg hat _
  obtain ⟨r', hr', hO'⟩ := hO.appended hr hown hg (by
    rcases hat with hat | hat
    · exact Or.inl (by rw [hat]; rfl)
    · exact Or.inr (by rw [← hat]; rfl))
  exact h g cap r' w' hr' hO'
/-- append(v, y), y one cell: the variadic's box lies in the newest block. -/
theorem step_append_one {w0 w : World} (hgd : o.guard = none) (s x : Operand) (t : TypeId)
    (ho : o.op = .call { callee := .builtin .append, args := #[s, x], argTypes := #[t, t] })
    (e : TypeId) (z : Value) (bytes : Nat) (ht : P.underlying t = some (.slice e)) (hinfo : (P.info? e).map (fun i => (i.zero, i.size, i.bytes)) = some (some z, 1, bytes))
    (hzs : z.cells.size = 1) (v : Value) (n : Nat) (xs : List Value) (r l : Own) (y : Value) (hs : a.eval s = v) (hr : Row e 1 v n xs r) (hO : Owned w0 w (r ++ l))
    (hx : a.eval x = .slice (some ⟨w.heap.size, 0, none⟩) 1 1) (h1 : y.oneCell' = true) (h63 : n + 1 ≤ maxLen) (hbytes : (n + 1) * bytes ≤ 140737488355328)
    (h : ∀ g cap r' w', Row e 1 (.slice (some ⟨g, 0, none⟩) (n + 1) cap) (n + 1) (xs ++ [y]) r' → Owned w0 w' (r' ++ l) → K (a.put o.dst (.slice (some ⟨g, 0, none⟩) (n + 1) cap)) w') :
    if Region.wanted o (yielded ops a.tmps) = true then Oper.wp P o a (w.alloc (.cells #[y] e)) K Q else E :=
  step_append_row hgd s x t ho e z 1 bytes ht hinfo hzs (by omega) v n xs r l hs hr (hO.alloc_ _) ⟨w.heap.size, 0, none⟩ 1 1 [y] hx rfl (cell_one_new w y e) (by simpa using h1) (by omega) h63 hbytes h
end
end Go.Sep
