/- A region that draws its order and ends in one operation that waits for all others: a condition S on the world that the others keep serves; the last one may break it. -/
import Derived.OrdersHeld
import Derived.StillTail
import Derived.Deep.RegionHeld
import Derived.Test.YtepjebmiegkpnaaSep
namespace Go.Sep
open Go
section
variable {P : Program} {l : List Oper} {n : Nat} {S : World → Prop} {Q : Exit → Act → World → Prop}
def popOk (l : List Oper) (n : Nat) : Bool :=
  decide (l.length = n + 1) && ((List.range (n + 1)).all (fun i => match l[i]? with
    | some o => o.guard.isNone && o.after.all (fun e => !(Region.binds .any e) || decide (e.on < i))
    | none => false)) && (List.range n).all (fun i => Region.waitsFor .any l.toArray n i || (List.range n).any (fun j => Region.waitsFor .any l.toArray n j && Region.waitsFor .any l.toArray j i))
theorem popOk_spec (h : popOk l n = true) : l.length = n + 1 ∧ (∀ i, i < n + 1 → ∃ o, l[i]? = some o ∧ o.guard = none ∧ ∀ e ∈ o.after, Region.binds .any e = true → e.on < i) ∧ ∀ i, i < n → Region.waitsFor .any l.toArray n i = true ∨ ∃ j, j < n ∧ Region.waitsFor .any l.toArray n j = true ∧ Region.waitsFor .any l.toArray j i = true := by
  simp only [popOk, Bool.and_eq_true, decide_eq_true_eq, List.all_eq_true, List.mem_range] at h
  obtain ⟨⟨h1, h2⟩, h3⟩ := h
  refine ⟨h1, fun i hi => ?_, fun i hi => by
    have h5 := h3 i hi
    rw [Bool.or_eq_true, List.any_eq_true] at h5
    rcases h5 with h5 | ⟨j, hj, h5⟩
    · exact .inl h5
    · rw [Bool.and_eq_true] at h5
      exact .inr ⟨j, List.mem_range.1 hj, h5⟩⟩
  have h4 := h2 i hi
  split at h4
  · rename_i o ho
    simp only [Bool.and_eq_true, Option.isNone_iff_eq_none, Array.all_eq_true_iff_forall_mem, Bool.or_eq_true, Bool.not_eq_true', decide_eq_true_eq] at h4
    refine ⟨o, ho, h4.1, fun e he hb => ?_⟩
    rcases h4.2 e he with h5 | h5
    · rw [h5] at hb; cases hb
    · exact h5
  · cases h4
/-- Behind all others: the last one, then the post. -/
def popQ (P : Program) (o : Oper) (Q : Exit → Act → World → Prop) : Exit → Act → World → Prop
  | .normal, a, w => Oper.wp P o a w (fun a' w' => Q .normal a' w') Q
  | .exit i, a, w => Q (.exit i) a w
  | .goto t, a, w => Q (.goto t) a w
  | .ret, a, w => Q .ret a w
  | .panic c, a, w => Q (.panic c) a w
  | .outgrown, a, w => Q .outgrown a w
theorem getD_push_lt (x : Array Bool) (b d : Bool) {i : Nat} (h : i < x.size) : (x.push b).getD i d = x.getD i d := by
  simp [Array.getElem?_push_lt h, h]
theorem push_set (x : Array Bool) (b v : Bool) {i : Nat} (h : i < x.size) : (x.push b).setIfInBounds i v = (x.setIfInBounds i v).push b := by
  apply Array.ext
  · simp
  · intro j h1 h2
    simp only [Array.size_setIfInBounds, Array.size_push] at h1
    by_cases hj : j = x.size
    · subst hj
      rw [Array.getElem_setIfInBounds_ne (by simp) (by omega), Array.getElem_push_eq]
      have e : (x.setIfInBounds i v).size = x.size := by simp
      simp [Array.getElem_push]
    · by_cases hij : i = j
      · subst hij
        rw [Array.getElem_setIfInBounds_self, Array.getElem_push_lt (by simpa using h)]
        simp
      · rw [Array.getElem_setIfInBounds_ne (by simp; omega) hij, Array.getElem_push_lt (by omega), Array.getElem_push_lt (by simp; omega), Array.getElem_setIfInBounds_ne (by omega) hij]
theorem pop_get (_h : l.length = n + 1) {i : Nat} (hi : i < n) : (l.take n).toArray[i]? = l.toArray[i]? := by
  simp [hi]
theorem pop_ready (hB : popOk l n = true) {listed : Array Bool} (hs : listed.size = n) {i : Nat} (hi : i < n) : i ∈ Region.ready .any l.toArray (listed.push false) ↔ i ∈ Region.ready .any (l.take n).toArray listed := by
  obtain ⟨h1, h2, -⟩ := popOk_spec hB
  obtain ⟨o, ho, -, hlt⟩ := h2 i (by omega)
  have ho' : l.toArray[i]? = some o := by simpa using ho
  have ho2 : (l.take n).toArray[i]? = some o := (pop_get h1 hi).trans ho'
  rw [mem_ready, mem_ready, getD_push_lt _ _ _ (by omega), ho', ho2]
  constructor
  · rintro ⟨a, o', e, b⟩
    cases e
    exact ⟨a, o, rfl, fun e he hb => by have := b e he hb; rwa [getD_push_lt _ _ _ (by have := hlt e he hb; omega)] at this⟩
  · rintro ⟨a, o', e, b⟩
    cases e
    exact ⟨a, o, rfl, fun e he hb => by rw [getD_push_lt _ _ _ (by have := hlt e he hb; omega)]; exact b e he hb⟩
theorem pop_all (hB : popOk l n = true) {listed : Array Bool} (hs : listed.size = n) (hr : Region.ready .any (l.take n).toArray listed = []) : ∀ i, i < n → listed.getD i true = true := by
  obtain ⟨h1, h2, -⟩ := popOk_spec hB
  intro i
  induction i using Nat.strongRecOn with
  | _ i ih =>
    intro hi
    cases hl : listed.getD i true with
    | true => rfl
    | false =>
      obtain ⟨o, ho, -, hlt⟩ := h2 i (by omega)
      have ho2 : (l.take n).toArray[i]? = some o := (pop_get h1 hi).trans (by simpa using ho)
      have : i ∈ Region.ready .any (l.take n).toArray listed := mem_ready.2 ⟨hl, o, ho2, fun e he hb => by
        have h3 := ih e.on (hlt e he hb) (by have := hlt e he hb; omega)
        have h4 : e.on < listed.size := by have := hlt e he hb; omega
        simpa [h4] using h3⟩
      rw [hr] at this
      cases this
/-- What an operation waits for is listed where it is listed. -/
def PopInv (l : List Oper) (n : Nat) (listed : Array Bool) : Prop := ∀ i, i < n → listed.getD i true = true → ∀ o, l[i]? = some o → ∀ e ∈ o.after, Region.binds .any e = true → listed.getD e.on true = true
theorem PopInv.set {listed : Array Bool} (hI : PopInv l n listed) {i : Nat} (hd : ∀ o, l[i]? = some o → ∀ e ∈ o.after, Region.binds .any e = true → listed.getD e.on true = true) : PopInv l n (listed.setIfInBounds i true) := by
  have hmono : ∀ k, listed.getD k true = true → (listed.setIfInBounds i true).getD k true = true := by
    intro k hk
    rw [Array.getD_eq_getD_getElem?] at hk ⊢
    by_cases e : i = k
    · subst e
      rw [Array.getElem?_setIfInBounds]
      split
      · split <;> rfl
      · exact hk
    · rw [Array.getElem?_setIfInBounds_ne e]
      exact hk
  intro k hk hl o ho e he hb
  by_cases h : i = k
  · subst h
    exact hmono _ (hd o ho e he hb)
  · refine hmono _ (hI k hk ?_ o ho e he hb)
    rw [Array.getD_eq_getD_getElem?] at hl ⊢
    rwa [Array.getElem?_setIfInBounds_ne h] at hl
theorem pop_last (hB : popOk l n = true) {listed : Array Bool} (hs : listed.size = n) (hI : PopInv l n listed) : (∀ i, i < n → listed.getD i true = true) ↔ n ∈ Region.ready .any l.toArray (listed.push false) := by
  obtain ⟨h1, h2, h3⟩ := popOk_spec hB
  obtain ⟨o, ho, -, hlt⟩ := h2 n (by omega)
  have ho' : l.toArray[n]? = some o := by simpa using ho
  constructor
  · intro hall
    refine mem_ready.2 ⟨by subst hs; simp, o, ho', fun e he hb => ?_⟩
    have h4 := hlt e he hb
    rw [getD_push_lt _ _ _ (by omega)]
    have h5 := hall e.on h4
    have h6 : e.on < listed.size := by omega
    simpa [h6] using h5
  · intro hr i hi
    obtain ⟨-, o2, ho2, hall⟩ := mem_ready.1 hr
    have one : ∀ i, i < n → Region.waitsFor .any l.toArray n i = true → listed.getD i true = true := by
      intro i hi hw
      obtain ⟨o3, ho3, e, he, hb, hon⟩ := Region.waitsFor_spec hw
      rw [ho2] at ho3
      cases ho3
      have h4 := hall e he hb
      rw [hon, getD_push_lt _ _ _ (by omega)] at h4
      have h6 : i < listed.size := by omega
      simpa [h6] using h4
    rcases h3 i hi with h5 | ⟨j, hj, h5, h6⟩
    · exact one i hi h5
    · obtain ⟨o3, ho3, e, he, hb, hon⟩ := Region.waitsFor_spec h6
      have h7 := hI j hj (one j hj h5) o3 (by simpa using ho3) e he hb
      rwa [hon] at h7
theorem pop_step (hB : popOk l n = true) {o : Oper} {i : Nat} (hi : i < n) {K K' : Act → World → Prop} {a : Act} {w : World} (hK : ∀ a w, K a w → K' a w) (h : wpOp P (l.take n).toArray (popQ P o Q) i K a w) : wpOp P l.toArray Q i K' a w := by
  obtain ⟨h1, h2, -⟩ := popOk_spec hB
  obtain ⟨oi, ho, hg, -⟩ := h2 i (by omega)
  have ho' : l.toArray[i]? = some oi := by simpa using ho
  have ho2 : (l.take n).toArray[i]? = some oi := (pop_get h1 hi).trans ho'
  unfold wpOp at *
  rw [ho2] at h
  rw [ho']
  have hw : ∀ f, Region.wanted oi f = true := fun f => by unfold Region.wanted; rw [hg]
  simp only [hw, if_true] at h ⊢
  rcases h with h | h
  · exact .inl (Oper.wp_mono hK h)
  · exact .inr h
theorem wpAny_none {ops : Array Oper} {listed : Array Bool} {a : Act} {w : World} (hr : Region.ready .any ops listed = []) (h : Q .normal a w) : ∀ fuel, wpAny P .any ops Q fuel listed a w
  | 0 => ⟨hr, h⟩
  | _ + 1 => ⟨fun _ => h, by rw [hr]; simp⟩
theorem pop_fin (hB : popOk l n = true) {o : Oper} (ho : l[n]? = some o) {listed : Array Bool} (hs : listed.size = n) (hr : Region.ready .any (l.take n).toArray listed = []) {a : Act} {w : World} (h : popQ P o Q .normal a w) (fuel : Nat) :
    wpOp P l.toArray Q n (wpAny P .any l.toArray Q fuel ((listed.push false).setIfInBounds n true)) a w := by
  obtain ⟨h1, h2, -⟩ := popOk_spec hB
  obtain ⟨o2, ho2, hg, -⟩ := h2 n (by omega)
  rw [ho] at ho2
  cases ho2
  have ho' : l.toArray[n]? = some o := by simpa using ho
  have hnone : Region.ready .any l.toArray ((listed.push false).setIfInBounds n true) = [] := by
    refine List.eq_nil_iff_forall_not_mem.2 (fun i hi => ?_)
    obtain ⟨hu, oi, hoi, hall⟩ := mem_ready.1 hi
    have hlt : i < l.length := by have := (Array.getElem?_eq_some_iff.1 hoi).1; simpa using this
    by_cases e : i = n
    · subst e
      rw [Array.getD_eq_getD_getElem?] at hu
      simp [hs] at hu
    · have hin : i < n := by omega
      have h3 := pop_all hB hs hr i hin
      rw [Array.getD_eq_getD_getElem?, Array.getElem?_setIfInBounds_ne (by omega), ← Array.getD_eq_getD_getElem?, getD_push_lt _ _ _ (by omega), h3] at hu
      cases hu
  unfold wpOp
  rw [ho']
  have hw : ∀ f, Region.wanted o f = true := fun f => by unfold Region.wanted; rw [hg]
  simp only [hw, if_true]
  exact .inl (Oper.wp_mono (fun a' w' h' => wpAny_none hnone h' fuel) h)
theorem pop_any (hB : popOk l n = true) {o : Oper} (ho : l[n]? = some o) : ∀ (fuel : Nat) (listed : Array Bool) (a : Act) (w : World), listed.size = n → PopInv l n listed → wpAnyH P .any (l.take n).toArray (popQ P o Q) S fuel listed a w → wpAny P .any l.toArray Q (fuel + 1) (listed.push false) a w
  | 0, listed, a, w, hs, hI, h => by
    obtain ⟨h1, h2, -⟩ := popOk_spec hB
    refine ⟨fun h0 => ?_, fun i hi => ?_⟩
    · have := (pop_last hB hs hI).1 (pop_all hB hs h.1)
      rw [h0] at this
      cases this
    · by_cases hin : i < n
      · have := (pop_ready hB hs hin).1 hi
        rw [h.1] at this
        cases this
      · obtain ⟨-, oi, hoi, -⟩ := mem_ready.1 hi
        have hlt : i < l.length := by have := (Array.getElem?_eq_some_iff.1 hoi).1; simpa using this
        obtain rfl : i = n := by omega
        exact pop_fin hB ho hs h.1 h.2 0
  | fuel + 1, listed, a, w, hs, hI, h => by
    obtain ⟨h1, h2, -⟩ := popOk_spec hB
    have hnil : (∀ i, i < n → i ∉ Region.ready .any (l.take n).toArray listed) → Region.ready .any (l.take n).toArray listed = [] := fun hh => by
      refine List.eq_nil_iff_forall_not_mem.2 (fun i hi => ?_)
      obtain ⟨-, oi, hoi, -⟩ := mem_ready.1 hi
      have hlt : i < (l.take n).length := by have := (Array.getElem?_eq_some_iff.1 hoi).1; simpa using this
      rw [List.length_take] at hlt
      exact hh i (by omega) hi
    refine ⟨fun h0 => ?_, fun i hi => ?_⟩
    · have h3 := hnil (fun i hi hm => by have := (pop_ready hB hs hi).2 hm; rw [h0] at this; cases this)
      have := (pop_last hB hs hI).1 (pop_all hB hs h3)
      rw [h0] at this
      cases this
    · by_cases hin : i < n
      · have h4 := h.2 i ((pop_ready hB hs hin).1 hi)
        have hd : ∀ o, l[i]? = some o → ∀ e ∈ o.after, Region.binds .any e = true → listed.getD e.on true = true := by
          intro o3 ho3 e he hb
          obtain ⟨-, o4, ho4, hall⟩ := mem_ready.1 hi
          have e4 : o4 = o3 := by
            have : l.toArray[i]? = some o3 := by simpa using ho3
            rw [this] at ho4
            exact (Option.some.inj ho4).symm
          subst e4
          have h9 := hall e he hb
          obtain ⟨o5, ho5, -, hlt5⟩ := h2 i (by omega)
          rw [ho3] at ho5
          cases ho5
          have h8 := hlt5 e he hb
          rw [getD_push_lt _ _ _ (by omega)] at h9
          have h10 : e.on < listed.size := by omega
          simpa [h10] using h9
        rw [push_set _ _ _ (by omega)]
        exact pop_step hB hin (fun a' w' h' => pop_any hB ho fuel _ a' w' (by simpa using hs) (hI.set hd) h'.2) h4
      · obtain ⟨-, oi, hoi, -⟩ := mem_ready.1 hi
        have hlt : i < l.length := by have := (Array.getElem?_eq_some_iff.1 hoi).1; simpa using this
        obtain rfl : i = n := by omega
        have hall := (pop_last hB hs hI).2 hi
        have h3 := hnil (fun j hj hm => by have := (mem_ready.1 hm).1; rw [hall j hj] at this; cases this)
        exact pop_fin hB ho hs h3 (h.1 h3) _
/-- **The region.** -/
theorem wp_region_pop {id : Nat} {a : Act} {w : World} {l : List Oper} (n : Nat) (o : Oper) (ho : l[n]? = some o) (hB : popOk l n = true) (hm : P.follows .mixedOrders = true) (hS : S w.drew)
    (h : S w.drew → wpAnyH P .any (l.take n).toArray (popQ P o Q) S n (Array.replicate n false) a w.drew) : (Code.region id l.toArray true).wp P Q a w := by
  obtain ⟨h1, h2, -⟩ := popOk_spec hB
  have H := pop_any hB ho n _ a w.drew (by simp) (fun i hi hl => by rw [Array.getD_eq_getD_getElem?] at hl; simp [hi] at hl) (h hS)
  refine wp_region_any hm ?_
  have e : l.toArray.size = n + 1 := by simpa using h1
  have e2 : (Array.replicate n false).push false = Array.replicate (n + 1) false := by
    rw [Array.replicate_succ]
  rw [e, ← e2]
  exact H
end
section
open Go.RowKit
variable {P : Program} {ops : Array Oper} {o : Oper} {a : Act} {K : Act → World → Prop} {Q : Exit → Act → World → Prop} {E : Prop}
/-- append to a row of one's own, of any number of elements, as one step of a region. -/
theorem step_append_gen {w0 w : World} (hgd : o.guard = none) (s x : Operand) (t : TypeId)
    (ho : o.op = .call { callee := .builtin .append, args := #[s, x], argTypes := #[t, t] })
    (e : TypeId) (z : Value) (size bytes : Nat) (ht : P.underlying t = some (.slice e)) (hinfo : (P.info? e).map (fun i => (i.zero, i.size, i.bytes)) = some (some z, size, bytes))
    (hzs : z.cells.size = size) (hsz : 0 < size)
    (v : Value) (n : Nat) (xs : List Value) (r l : Own) (hs : a.eval s = v) (hr : Row e size v n xs r) (hO : Owned w0 w (r ++ l))
    (ad : Addr) (m c : Nat) (news : List Value) (hx : a.eval x = .slice (some ad) m c) (hl : news.length = m * size) (hnews : ∀ j u, news[j]? = some u → w.cell? (ad.add j) = some u) (h1 : ∀ u ∈ news, u.oneCell' = true)
    (h63 : n + m ≤ maxLen) (hbytes : (n + m) * bytes ≤ 140737488355328)
    (h : ∀ v' r' w', Row e size v' (n + m) (xs ++ news) r' → Owned w0 w' (r' ++ l) → K (a.put o.dst v') w') :
    if Region.wanted o (yielded ops a.tmps) = true then Oper.wp P o a w K Q else E := by
  have hw : Region.wanted o (yielded ops a.tmps) = true := by unfold Region.wanted; rw [hgd]
  rw [if_pos hw]
  obtain ⟨i0, hi, hz0, hz1, hz2⟩ := info_parts hinfo
  obtain ⟨v', w', hrun, r1, r2, -, hat⟩ := run_append_own_at (P := P) w w0.heap.size t o.type e i0 z size bytes ht hi hz0 hz1 hz2 hzs hsz v n xs (hO.ownsRow hr) ad m c news hl hnews h1 h63 hbytes hO.size
  obtain ⟨r', hr', hO'⟩ := hO.appended hr r1 r2 hat
  unfold Oper.wp execOp
  simp only [ho, resolve, invoke, builtin, Sem.run_bind, Sem.run_pure, Result.andThen_ok, List.map_toArray, List.map_cons, List.map_nil, hs, hx, hrun]
  exact h v' r' w' hr' hO'
end
end Go.Sep
