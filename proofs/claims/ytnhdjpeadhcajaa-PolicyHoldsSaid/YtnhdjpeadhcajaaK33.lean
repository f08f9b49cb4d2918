/- Merged texts: Layer 11: the keys by numbers (a map from ints to ints) as an object in memory. Layer 11: what a policy does, in plain Lean. -/
import Derived.Test.YtnhdjpeadhcajaaK18
import Derived.Test.YtnhdjpeadhcajaaK14
import Derived.Test.YtnhdjpeadhcajaaK27
import Derived.Test.YtnhdjpeadhcajaaK32
namespace Go.Proofs.Ytnhdjpeadhcajaa
open Go.RowKit Go.Sep DqPure Go.WideElems
theorem und_kmap : Try.prog.underlying 55 = some (.map 3 3) := by kernel_rfl
theorem zero_int (w : World) : (zeroValue 3).run Try.prog w = .ok (.int .i64 0) w := by kernel_rfl
noncomputable abbrev plI : Value → Option (DataW Unit × List MemPlace) := plainElem Try.prog 3
structure KMap (n : Nat) (f : Int → Option Int) (o : Obj) : Prop where
  ex : ∃ es clock, o = .map es clock ∧ Fit Try.prog 3 plI es clock ∧ es.size ≤ n ∧
    ∀ x, wfk x → Maps.has (DataW.map ((es.toList.map (rg Try.prog 3 plI)).foldr DataW.insert [])) (kl x) = (f x).isSome ∧
      (DataW.map ((es.toList.map (rg Try.prog 3 plI)).foldr DataW.insert [])).atKey (kl x) (.lit (.int .i64 0)) = .lit (.int .i64 ((f x).getD 0))
def updK (f : Int → Option Int) (x : Int) (v : Option Int) : Int → Option Int := fun y => if y = x then v else f y
theorem updK_same (f : Int → Option Int) (x : Int) (v : Option Int) : updK f x v x = v := by unfold updK; rw [if_pos rfl]
theorem updK_ne (f : Int → Option Int) {x y : Int} (v : Option Int) (h : y ≠ x) : updK f x v y = f y := by unfold updK; rw [if_neg h]
theorem KMap.owns {n : Nat} {f : Int → Option Int} {o : Obj} {w : World} {b : Nat} (h : KMap n f o) (hb : w.heap[b]? = some o) :
    ∃ D, w.ownsMap Try.prog 3 plI b n D ∧ ∀ x, wfk x → Maps.has D (kl x) = (f x).isSome ∧ D.atKey (kl x) (.lit (.int .i64 0)) = .lit (.int .i64 ((f x).getD 0)) := by
  obtain ⟨es, clock, rfl, hF, hs, hat⟩ := h.ex
  exact ⟨_, ⟨es, clock, hb, hF, hs, rfl⟩, hat⟩
theorem KMap.of_owns {n : Nat} {f : Int → Option Int} {w : World} {b : Nat} {D : DataW Unit} (h : w.ownsMap Try.prog 3 plI b n D) (hat : ∀ x, wfk x → Maps.has D (kl x) = (f x).isSome ∧ D.atKey (kl x) (.lit (.int .i64 0)) = .lit (.int .i64 ((f x).getD 0))) :
    ∃ o, w.heap[b]? = some o ∧ KMap n f o := by
  obtain ⟨es, clock, hb, hF, hs, rfl⟩ := h
  exact ⟨_, hb, ⟨es, clock, rfl, hF, hs, hat⟩⟩
theorem kmap_empty : KMap 0 (fun _ => none) (.map #[] 0) := by
  obtain ⟨es, clock, hb, hF, hs, hD⟩ := World.ownsMap_made (H := Unit) default Try.prog 3 plI
  rw [(MapKept.heap_alloc (default : World) (.map #[] 0)).1] at hb
  cases hb
  exact ⟨_, _, rfl, hF, hs, fun x _ => ⟨rfl, rfl⟩⟩
section
variable {n : Nat} {f : Int → Option Int} {o : Obj} {w w0 : World} {b : Nat} {r F : Own}
theorem KMap.mono {n' : Nat} (h : KMap n f o) (hn : n ≤ n') : KMap n' f o := by
  obtain ⟨es, clock, e, hF, hs, hat⟩ := h.ex
  exact ⟨es, clock, e, hF, by omega, hat⟩
theorem KMap.look (h : KMap n f o) (hb : w.heap[b]? = some o) {x : Int} (hx : wfk x) : (Instr.lookup 55 (.map (some b)) (.int .i64 x) false).run Try.prog w = .ok (.int .i64 ((f x).getD 0)) w := by
  obtain ⟨D, hD, hat⟩ := h.owns hb
  obtain ⟨c, h1, h2, -⟩ := hD.lookup_int keyed_i und_kmap und_int (zero_int w) (keyOf_i hx)
  rw [(hat x hx).2] at h2
  simp only [DataW.lit.injEq, Lit.int.injEq, true_and] at h2
  rw [h1, h2]
theorem KMap.look_ok (h : KMap n f o) (hb : w.heap[b]? = some o) {x : Int} (hx : wfk x) : (Instr.lookup 55 (.map (some b)) (.int .i64 x) true).run Try.prog w = .ok (.tuple #[.int .i64 ((f x).getD 0), .bool (f x).isSome]) w := by
  obtain ⟨D, hD, hat⟩ := h.owns hb
  obtain ⟨v, ps, h1, h2⟩ := hD.look_ok keyed_i und_kmap (zero_int w) (plainElem_int und_int (by decide)) (keyOf_i hx)
  obtain ⟨c, rfl, hc, -⟩ := plainElem_int_inv und_int h2
  have h3 := (congrArg Prod.fst hc)
  rw [(hat x hx).2] at h3
  simp only [DataW.lit.injEq, Lit.int.injEq, true_and] at h3
  rw [h1, (hat x hx).1, h3]
theorem KMap.put (h : KMap n f o) (hO : Owned w0 w (r ++ F)) (hl : lookB r b = some o) (hn : n < maxLen) {x c : Int} (hx : wfk x) (hc : wfk c) :
    ∃ w' o', (Instr.mapUpdate 55 (.map (some b)) (.int .i64 x) (.int .i64 c)).run Try.prog w = .ok () w' ∧ KMap (n + 1) (updK f x (some c)) o' ∧ Owned w0 w' (setBk r b o' ++ F) := by
  obtain ⟨D, hD, hat⟩ := h.owns (hO.look_at hl).2
  obtain ⟨w', h1, h2, h3⟩ := hD.update keyed_i und_kmap hn (keyOf_i hx) (plainElem_int und_int hc)
  have hm := hD.isMap
  obtain ⟨o', ho, hM⟩ := KMap.of_owns (f := updK f x (some c)) h2 (fun y hy => by
    by_cases e : y = x
    · subst e
      rw [Maps.atKey_put_same hm (keyed_i.key (keyOf_i hy)), Maps.has_put_same hm (keyed_i.key (keyOf_i hy)), updK_same]
      exact ⟨rfl, rfl⟩
    · rw [Maps.atKey_put_other (kl_ne e), Maps.has_put_other (kl_ne e), updK_ne _ _ e]
      exact hat y hy)
  exact ⟨w', o', h1, hM, hO.turn_at hl h3 ho⟩
theorem KMap.del (h : KMap n f o) (hO : Owned w0 w (r ++ F)) (hl : lookB r b = some o) {x : Int} (hx : wfk x) (ty : TypeId) :
    ∃ w' o', (Builtin.delete_ #[55, 3] ty #[.map (some b), .int .i64 x]).run Try.prog w = .ok (.tuple #[]) w' ∧ KMap n (updK f x none) o' ∧ Owned w0 w' (setBk r b o' ++ F) := by
  obtain ⟨D, hD, hat⟩ := h.owns (hO.look_at hl).2
  obtain ⟨w', h1, h2, h3⟩ := hD.drop keyed_i und_kmap (keyOf_i hx) ty
  obtain ⟨o', ho, hM⟩ := KMap.of_owns (f := updK f x none) h2 (fun y hy => by
    by_cases e : y = x
    · subst e
      rw [Maps.atKey_del_same, Maps.has_del_same, updK_same]
      exact ⟨rfl, rfl⟩
    · rw [Maps.atKey_del_other (kl_ne e), Maps.has_del_other (kl_ne e), updK_ne _ _ e]
      exact hat y hy)
  exact ⟨w', o', h1, hM, hO.turn_at hl h3.grown ho⟩
theorem wpk_delete {ops : Array Oper} {rest : List Oper} {p : Oper} {a : Act} {Q : Exit → Act → World → Prop} (hg : p.guard = none) (x y : Operand)
    (hop : p.op = Op.call { callee := Callee.builtin Builtin.delete, args := #[x, y], argTypes := #[55, 3] }) {i : Int} (hx : a.eval x = .map (some b)) (hy : a.eval y = .int .i64 i)
    (h : KMap n f o) (hO : Owned w0 w (r ++ F)) (hl : lookB r b = some o) (hi : wfk i)
    (hK : ∀ w' o', KMap n (updK f i none) o' → Owned w0 w' (setBk r b o' ++ F) → wpList Try.prog ops Q rest (a.put p.dst (.tuple #[])) w') :
    wpList Try.prog ops Q (p :: rest) a w := by
  refine wpList_plain hg fun K' hK' => ?_
  obtain ⟨w', o', hrun, h1, h2⟩ := h.del hO hl hi p.type
  unfold Oper.wp
  simp [execOp, hop, resolve, invoke, builtin, hx, hy, hrun, Result.andThen]
  exact hK' _ _ (hK w' o' h1 h2)
theorem wpk_put {ops : Array Oper} {rest : List Oper} {p : Oper} {a : Act} {Q : Exit → Act → World → Prop} (hg : p.guard = none) (x y z : Operand)
    (hop : p.op = Op.mapUpdate 55 x y z) {i c : Int} (hx : a.eval x = .map (some b)) (hy : a.eval y = .int .i64 i) (hz : a.eval z = .int .i64 c)
    (h : KMap n f o) (hO : Owned w0 w (r ++ F)) (hl : lookB r b = some o) (hn : n < maxLen) (hi : wfk i) (hc : wfk c)
    (hK : ∀ w' o', KMap (n + 1) (updK f i (some c)) o' → Owned w0 w' (setBk r b o' ++ F) → wpList Try.prog ops Q rest (a.put p.dst undef) w') :
    wpList Try.prog ops Q (p :: rest) a w := by
  refine wpList_plain hg fun K' hK' => ?_
  obtain ⟨w', o', hrun, h1, h2⟩ := h.put hO hl hn hi hc
  unfold Oper.wp
  simp [execOp, hop, hx, hy, hz, hrun, Result.andThen]
  exact hK' _ _ (hK w' o' h1 h2)
end
end Go.Proofs.Ytnhdjpeadhcajaa
namespace Go.Proofs.Ytnhdjpeadhcajaa
open Go.RowKit Go.Sep DqPure
structure PSt where
  cap : Int
  per : Int
  sd : Int
  wd : Nat
  fl : FSt
  a : List (Int × Int)
  b : List (Int × Int)
  c : List (Int × Int)
  ks : Int → Option Int
  qw : Int
  ch : Int
  cm : Int
  cl : Int
  cs : Int
/-- the three rows -/
def st3 (a b c : List (Int × Int)) : Sts := fun k => if k = 0 then a else if k = 1 then b else if k = 2 then c else []
def PSt.st (P : PSt) : Sts := st3 P.a P.b P.c
def PSt.wt (P : PSt) : Int := sumW P.a + sumW P.b + sumW P.c
def PSt.len (P : PSt) : Nat := P.a.length + P.b.length + P.c.length
def PSt.pq (P : PSt) : Int := pr P.cap P.qw
/-- the first nodes of a row go to another one's end -/
def passL (most : Int) : List (Int × Int) → List (Int × Int) → List (Int × Int) × List (Int × Int)
  | [], p => ([], p)
  | x :: t, p => if most < sumW (x :: t) then passL most t (p ++ [x]) else (x :: t, p)
def PSt.passA (P : PSt) : PSt := { P with a := (passL P.qw P.a P.b).1, b := (passL P.qw P.a P.b).2 }
def PSt.passC (P : PSt) : PSt := { P with c := (passL P.pq P.c P.b).1, b := (passL P.pq P.c P.b).2 }
def cntH (hit : Bool) (h : Int) : Int := if hit = true then fitN (fitN h + 1) else fitN h
def cntM (hit : Bool) (m : Int) : Int := if hit = true then fitN m else fitN (fitN m + 1)
def PSt.counted (P : PSt) (hit : Bool) : PSt := { P with ch := cntH hit P.ch, cm := cntM hit P.cm, cl := fitL P.cl, cs := fitS P.cs }
def PSt.turned (P : PSt) : PSt := { P with ch := 0, cm := 0, cl := rateN P.ch P.cm, cs := stepN P.ch P.cm P.cl P.cs P.cap, qw := shW P.cap P.qw (farN P.ch P.cm P.cl P.cs) }
def PSt.count (P : PSt) (hit : Bool) : PSt := if dueB (P.counted hit).ch (P.counted hit).cm P.per = true then (P.counted hit).turned.passC else P.counted hit
def PSt.key (P : PSt) (x : Int) : Int := (P.ks x).getD 0
def PSt.oft (P : PSt) (key : Int) : Nat := P.fl.often P.sd P.wd key
def PSt.next (P : PSt) : Int :=
  if headI P.b = 0 then (if 0 < P.c.length then headI P.c else headI P.a)
  else if headI P.b = lastI P.b ∨ P.oft (P.key (headI P.b)) < P.oft (P.key (lastI P.b)) then headI P.b else lastI P.b
def remL (id : Int) (l : List (Int × Int)) : List (Int × Int) := l.filter (fun p => p.1 != id)
def PSt.drop (P : PSt) (id : Int) : PSt := { P with a := remL id P.a, b := remL id P.b, c := remL id P.c, ks := updK P.ks id none }
def PSt.settleN : Nat → PSt → PSt × List Int
  | 0, P => (P, [])
  | n + 1, P => if P.cap < P.wt then ((PSt.settleN n (P.drop P.next)).1, P.next :: (PSt.settleN n (P.drop P.next)).2) else (P, [])
def PSt.settle (P : PSt) : PSt × List Int := PSt.settleN P.len P.passA
def PSt.record (P : PSt) (key : Int) : PSt := { P with fl := P.fl.next P.sd P.wd key }
/-- a node's weight -/
def wtL (id : Int) (l : List (Int × Int)) : Int := ((l.find? (fun p => p.1 == id)).map (·.2)).getD 0
def inL (id : Int) (l : List (Int × Int)) : Bool := l.any (fun p => p.1 == id)
def PSt.touch (P : PSt) (id : Int) : PSt :=
  if inL id P.b = true then PSt.passC { P with b := remL id P.b, c := P.c ++ [(id, wtL id P.b)] }
  else if inL id P.a = true then { P with a := remL id P.a ++ [(id, wtL id P.a)] }
  else { P with c := remL id P.c ++ [(id, wtL id P.c)] }
def PSt.read (P : PSt) (id : Int) : PSt := ((P.record (P.key id)).touch id).count true
def setL (id x : Int) (l : List (Int × Int)) : List (Int × Int) := l.map (fun p => if p.1 = id then (id, x) else p)
def PSt.reweigh (P : PSt) (id x : Int) : PSt := { P with a := setL id x P.a, b := setL id x P.b, c := setL id x P.c }
def heavyN (cap x : Int) : Int := if x < 0 then 1 else if 2147483648 < x ∨ cap < x then 4 else 0
def PSt.may (P : PSt) (d nd wt : Int) : Int :=
  if d < 1 ∨ 4 < d then 1
  else if d = 1 ∧ (nd < 1 ∨ 65536 < nd) then 1
  else if d ≠ 1 ∧ (P.ks nd).isSome = false then 3
  else if d = 2 ∨ d = 4 then 0
  else if heavyN P.cap wt ≠ 0 then heavyN P.cap wt
  else if d = 1 ∧ (P.ks nd).isSome = true then 5
  else 0
def PSt.add (P : PSt) (nd key wt : Int) : PSt := { ((P.record key).count false) with a := ((P.record key).count false).a ++ [(nd, wt)], ks := updK P.ks nd (some key) }
/-- what an event does: the policy, who goes, the error -/
def PSt.act (P : PSt) (d nd key wt : Int) : PSt × List Int × Int :=
  if P.may d nd wt ≠ 0 then (P, [], P.may d nd wt)
  else if d = 1 then ((P.add nd key wt).settle.1, (P.add nd key wt).settle.2, 0)
  else if d = 3 then (((P.reweigh nd wt).read nd).settle.1, ((P.reweigh nd wt).read nd).settle.2, 0)
  else if d = 2 then (P.read nd, [], 0)
  else (P.drop nd, [], 0)
/-- events, one behind the other -/
def PSt.play : PSt → List (Int × Int × Int × Int) → PSt × List Int
  | P, [] => (P, [])
  | P, e :: l => (((P.act e.1 e.2.1 e.2.2.1 e.2.2.2).1.play l).1, (P.act e.1 e.2.1 e.2.2.1 e.2.2.2).2.1 ++ ((P.act e.1 e.2.1 e.2.2.1 e.2.2.2).1.play l).2)
def idsL (l : List (Int × Int)) : List Int := l.map (·.1)
def PSt.ids (P : PSt) : List Int := idsL P.a ++ (idsL P.b ++ idsL P.c)
end Go.Proofs.Ytnhdjpeadhcajaa
