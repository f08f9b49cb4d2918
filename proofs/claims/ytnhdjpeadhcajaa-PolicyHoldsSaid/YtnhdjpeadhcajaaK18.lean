/- Merged texts: Layer 7: the index of elements by their numbers (a map from ints to pointers) as an object in memory. -/
import Derived.Test.YtnhdjpeadhcajaaK17
import Derived.Maps.OwnSet
import Derived.Maps.Views
import Derived.Lib.Hide
namespace Go.Proofs.Ytnhdjpeadhcajaa
open Go.RowKit Go.Sep DqPure Go.WideElems
theorem und_map : Try.prog.underlying 81 = some (.map 3 86) := by kernel_rfl
theorem und_int : Try.prog.underlying 3 = some (.int .i64) := by kernel_rfl
theorem zero_ptr (w : World) : (zeroValue 86).run Try.prog w = .ok (.pointer none) w := by kernel_rfl
theorem keyed_i : Maps.Keyed Try.prog 3 := Maps.int_keyed und_int
/-- 0 for nothing, b + 1 for the block b -/
def rdP (v : Value) : Option (DataW Unit × List MemPlace) :=
  match v with
  | .pointer none => some (.lit (.int .i64 0), [])
  | .pointer (some a) => if a = ⟨a.block, 0, none⟩ then some (.lit (.int .i64 ((a.block : Int) + 1)), []) else none
  | _ => none
def toP : Nat → Value
  | 0 => .pointer none
  | b + 1 => nptr b
theorem rdP_mk (b : Nat) : rdP (nptr b) = some (.lit (.int .i64 ((b : Int) + 1)), []) := by
  show (if _ then _ else _) = _
  rw [if_pos rfl]
theorem rdP_inv {v : Value} {f : Nat} {ps : List MemPlace} (h : rdP v = some (.lit (.int .i64 (f : Int)), ps)) : v = toP f := by
  unfold rdP at h
  split at h
  · simp only [Option.some.injEq, Prod.mk.injEq, DataW.lit.injEq, Lit.int.injEq] at h
    obtain ⟨⟨-, h⟩, -⟩ := h
    obtain rfl : f = 0 := by omega
    rfl
  · next a =>
    split at h
    · next e =>
      simp only [Option.some.injEq, Prod.mk.injEq, DataW.lit.injEq, Lit.int.injEq] at h
      obtain ⟨⟨-, h⟩, -⟩ := h
      obtain rfl : f = a.block + 1 := by omega
      rw [e]
      rfl
    · cases h
  · cases h
def kl (x : Int) : Lit := .int .i64 x
def wfk (x : Int) : Prop := (Lit.int .i64 x).wf = true
structure OfMap (n : Nat) (f : Int → Nat) (o : Obj) : Prop where
  ex : ∃ es clock, o = .map es clock ∧ Fit Try.prog 3 rdP es clock ∧ es.size ≤ n ∧
    ∀ x, wfk x → (DataW.map ((es.toList.map (rg Try.prog 3 rdP)).foldr DataW.insert [])).atKey (kl x) (.lit (.int .i64 0)) = .lit (.int .i64 (f x : Int))
def updF (f : Int → Nat) (x : Int) (v : Nat) : Int → Nat := fun y => if y = x then v else f y
theorem updF_same (f : Int → Nat) (x : Int) (v : Nat) : updF f x v x = v := by unfold updF; rw [if_pos rfl]
theorem updF_ne (f : Int → Nat) {x y : Int} (v : Nat) (h : y ≠ x) : updF f x v y = f y := by unfold updF; rw [if_neg h]
theorem OfMap.owns {n : Nat} {f : Int → Nat} {o : Obj} {w : World} {b : Nat} (h : OfMap n f o) (hb : w.heap[b]? = some o) :
    ∃ D, w.ownsMap Try.prog 3 rdP b n D ∧ ∀ x, wfk x → D.atKey (kl x) (.lit (.int .i64 0)) = .lit (.int .i64 (f x : Int)) := by
  obtain ⟨es, clock, rfl, hF, hs, hat⟩ := h.ex
  exact ⟨_, ⟨es, clock, hb, hF, hs, rfl⟩, hat⟩
theorem OfMap.of_owns {n : Nat} {f : Int → Nat} {w : World} {b : Nat} {D : DataW Unit} (h : w.ownsMap Try.prog 3 rdP b n D) (hat : ∀ x, wfk x → D.atKey (kl x) (.lit (.int .i64 0)) = .lit (.int .i64 (f x : Int))) :
    ∃ o, w.heap[b]? = some o ∧ OfMap n f o := by
  obtain ⟨es, clock, hb, hF, hs, rfl⟩ := h
  exact ⟨_, hb, ⟨es, clock, rfl, hF, hs, hat⟩⟩
theorem keyOf_i {x : Int} (h : wfk x) : keyOf Try.prog 3 (.int .i64 x) = some (kl x) := Maps.keyOf_int_mk und_int h
theorem wfk_of {x : Int} (h1 : -9223372036854775808 ≤ x) (h2 : x ≤ 9223372036854775807) : wfk x := WalkArith.wf_i64 ⟨h1, by omega⟩
theorem kl_ne {x y : Int} (h : y ≠ x) : kl y ≠ kl x := fun e => h (by unfold kl at e; injection e)
theorem mapO_empty : OfMap 0 (fun _ => 0) (.map #[] 0) := by
  obtain ⟨es, clock, hb, hF, hs, hD⟩ := World.ownsMap_made (H := Unit) default Try.prog 3 rdP
  rw [(MapKept.heap_alloc (default : World) (.map #[] 0)).1] at hb
  cases hb
  exact ⟨_, _, rfl, hF, hs, fun x _ => rfl⟩
section
variable {n : Nat} {f : Int → Nat} {o : Obj} {w w0 : World} {b : Nat} {r F : Own}
theorem OfMap.look (h : OfMap n f o) (hb : w.heap[b]? = some o) {x : Int} (hx : wfk x) : (Instr.lookup 81 (.map (some b)) (.int .i64 x) false).run Try.prog w = .ok (toP (f x)) w := by
  obtain ⟨D, hD, hat⟩ := h.owns hb
  obtain ⟨v, ps, h1, h2⟩ := hD.lookup keyed_i und_map (zero_ptr w) (show rdP (.pointer none) = some (.lit (.int .i64 0), []) from rfl) (keyOf_i hx)
  rw [hat x hx] at h2
  rw [h1, rdP_inv h2]
theorem OfMap.put (h : OfMap n f o) (hO : Owned w0 w (r ++ F)) (hl : lookB r b = some o) (hn : n < maxLen) {x : Int} (hx : wfk x) (c : Nat) :
    ∃ w' o', (Instr.mapUpdate 81 (.map (some b)) (.int .i64 x) (nptr c)).run Try.prog w = .ok () w' ∧ OfMap (n + 1) (updF f x (c + 1)) o' ∧ Owned w0 w' (setBk r b o' ++ F) := by
  obtain ⟨D, hD, hat⟩ := h.owns (hO.look_at hl).2
  obtain ⟨w', h1, h2, h3⟩ := hD.update keyed_i und_map hn (keyOf_i hx) (rdP_mk c)
  have hm := hD.isMap
  obtain ⟨o', ho, hM⟩ := OfMap.of_owns (f := updF f x (c + 1)) h2 (fun y hy => by
    by_cases e : y = x
    · subst e
      rw [Maps.atKey_put_same hm (keyed_i.key (keyOf_i hy)), updF_same]
      rfl
    · rw [Maps.atKey_put_other (kl_ne e), updF_ne _ _ e]
      exact hat y hy)
  exact ⟨w', o', h1, hM, hO.turn_at hl h3 ho⟩
theorem OfMap.del (h : OfMap n f o) (hO : Owned w0 w (r ++ F)) (hl : lookB r b = some o) {x : Int} (hx : wfk x) (ty : TypeId) :
    ∃ w' o', (Builtin.delete_ #[81, 3] ty #[.map (some b), .int .i64 x]).run Try.prog w = .ok (.tuple #[]) w' ∧ OfMap n (updF f x 0) o' ∧ Owned w0 w' (setBk r b o' ++ F) := by
  obtain ⟨D, hD, hat⟩ := h.owns (hO.look_at hl).2
  obtain ⟨w', h1, h2, h3⟩ := hD.drop keyed_i und_map (keyOf_i hx) ty
  obtain ⟨o', ho, hM⟩ := OfMap.of_owns (f := updF f x 0) h2 (fun y hy => by
    by_cases e : y = x
    · subst e
      rw [Maps.atKey_del_same, updF_same]
      rfl
    · rw [Maps.atKey_del_other (kl_ne e), updF_ne _ _ e]
      exact hat y hy)
  exact ⟨w', o', h1, hM, hO.turn_at hl h3.grown ho⟩
theorem wp_delete {ops : Array Oper} {rest : List Oper} {p : Oper} {a : Act} {Q : Exit → Act → World → Prop} (hg : p.guard = none) (x y : Operand)
    (hop : p.op = Op.call { callee := Callee.builtin Builtin.delete, args := #[x, y], argTypes := #[81, 3] }) {i : Int} (hx : a.eval x = .map (some b)) (hy : a.eval y = .int .i64 i)
    (h : OfMap n f o) (hO : Owned w0 w (r ++ F)) (hl : lookB r b = some o) (hi : wfk i)
    (hK : ∀ w' o', OfMap n (updF f i 0) o' → Owned w0 w' (setBk r b o' ++ F) → wpList Try.prog ops Q rest (a.put p.dst (.tuple #[])) w') :
    wpList Try.prog ops Q (p :: rest) a w := by
  refine wpList_plain hg fun K' hK' => ?_
  obtain ⟨w', o', hrun, h1, h2⟩ := h.del hO hl hi p.type
  unfold Oper.wp
  simp [execOp, hop, resolve, invoke, builtin, hx, hy, hrun, Result.andThen]
  exact hK' _ _ (hK w' o' h1 h2)
theorem wp_put {ops : Array Oper} {rest : List Oper} {p : Oper} {a : Act} {Q : Exit → Act → World → Prop} (hg : p.guard = none) (x y z : Operand)
    (hop : p.op = Op.mapUpdate 81 x y z) {i : Int} {c : Nat} (hx : a.eval x = .map (some b)) (hy : a.eval y = .int .i64 i) (hz : a.eval z = nptr c)
    (h : OfMap n f o) (hO : Owned w0 w (r ++ F)) (hl : lookB r b = some o) (hn : n < maxLen) (hi : wfk i)
    (hK : ∀ w' o', OfMap (n + 1) (updF f i (c + 1)) o' → Owned w0 w' (setBk r b o' ++ F) → wpList Try.prog ops Q rest (a.put p.dst undef) w') :
    wpList Try.prog ops Q (p :: rest) a w := by
  refine wpList_plain hg fun K' hK' => ?_
  obtain ⟨w', o', hrun, h1, h2⟩ := h.put hO hl hn hi c
  unfold Oper.wp
  simp [execOp, hop, hx, hy, hz, hrun, Result.andThen]
  exact hK' _ _ (hK w' o' h1 h2)
end
end Go.Proofs.Ytnhdjpeadhcajaa
