/- Merged texts: A loop over an iterator, over own memory as a list of blocks: what an iterator promises ('Iter'), and the law of the statement. -/
import Derived.RangeFuncNested
import Derived.RangeFuncBound
import Derived.RangeFuncLeaves
import Derived.OwnWalkIn
import Derived.Test.YtnhdjpeadhcajaaK03
namespace Go.Sep
open Go Go.RowKit
variable {P : Program}
/-- Function g (with what it has caught, lb) hands the elements xs to its loop, one behind the other, until a round says 'no more'. R: what it reads; N: whatever else is there. -/
def Iter (P : Program) (g : Nat) (lb : Array Value) {α : Type} (encs : α → Array Value) (w0 : World) (R : Own) (xs : List α) : Prop :=
  ∀ (l : Nat) (N : Own) (Q Qx : List α → Own → Prop) (W : World) (q : Own),
    (∀ pre x post, xs = pre ++ x :: post → ∀ (K : Own) (W : World) (q : Own), Q pre q → Owned w0 W (K ++ (q ++ (R ++ N))) →
      YieldAt Fence.wide 9 P l (encs x) W fun e W' =>
        (e = .returned (.bool true) ∧ ∃ q', Q (pre ++ [x]) q' ∧ Owned w0 W' (K ++ (q' ++ (R ++ N)))) ∨
        (e = .returned (.bool false) ∧ ∃ q', Qx (pre ++ [x]) q' ∧ Owned w0 W' (K ++ (q' ++ (R ++ N))))) →
    Q [] q → Owned w0 W (q ++ (R ++ N)) →
    CallsIn Fence.wide 9 P g (#[.func (.yield l) #[] #[]] ++ lb) W fun e W' => (∃ v, e = .returned v) ∧
      ((∃ q', Q xs q' ∧ Owned w0 W' (q' ++ (R ++ N))) ∨ (∃ pre q', pre <+: xs ∧ Qx pre q' ∧ Owned w0 W' (q' ++ (R ++ N))))
theorem roundIn_any {m m' : Nat} {F : Fence} (hd : F.depth = none) {l : Nat} {f : FuncId} {tmps : Array Value} {assign body : Code} {w : World} {R : Ending → World → Prop}
    (h : RoundIn F m P l f tmps assign body w R) : RoundIn F m' P l f tmps assign body w R := ⟨h.1, fun c cs _ => h.2 c cs (fun d hx => by rw [hd] at hx; cases hx)⟩
theorem callsIn_any {m m' : Nat} {F : Fence} (hd : F.depth = none) {f : FuncId} {args : Array Value} {w : World} {R : Ending → World → Prop}
    (h : CallsIn F m P f args w R) : CallsIn F m' P f args w R := ⟨h.1, fun cs _ => h.2 cs (fun d hx => by rw [hd] at hx; cases hx)⟩
/-- A listed block becomes another object. -/
theorem Owned.put {w0 w : World} {g : Nat} {o : Obj} {l : Own} (h : Owned w0 w ((g, o) :: l)) (o' : Obj) : Owned w0 (w.putObj g o') ((g, o') :: l) := by
  have hn := h.nodup
  simp only [List.map_cons, List.nodup_cons] at hn
  have hb : Below w0.heap.size w (w.putObj g o') := (Below.refl _ _).grown (grownBy_putObj' w g o') h.size (fun k e => by cases e; exact h.base)
  have ht : Owned w0 (w.putObj g o') l := h.tail.step hb (fun p hp => World.putObj_heap_other (fun e => hn.1 (List.mem_map.2 ⟨p, hp, e⟩)))
  refine ⟨ht.below, by simpa using hn, ?_⟩
  intro p hp
  rcases List.mem_cons.1 hp with rfl | hp
  · exact ⟨h.base, World.putObj_heap_same h.lt⟩
  · exact ht.at_ p hp
/-- The same, the block being anywhere in the list. -/
theorem Owned.put_in {w0 w : World} {g : Nat} {o : Obj} {k l : Own} (h : Owned w0 w (k ++ ((g, o) :: l))) (o' : Obj) : Owned w0 (w.putObj g o') (k ++ ((g, o') :: l)) := by
  have h1 : Owned w0 w ((g, o) :: (k ++ l)) := h.perm List.perm_middle
  exact (h1.put o').perm List.perm_middle.symm
/-- How a round's body may be left. -/
def roundEnd {α : Type} (w0 : World) (K T : Own) (I : List α → Own → Prop) (Ix : Code → List α → Own → Prop) (xs : List α) : Exit → Act → World → Prop
  | .normal, _, W' => ∃ q', I xs q' ∧ Owned w0 W' (K ++ (q' ++ T))
  | .ret, _, W' => ∃ q', Ix .ret xs q' ∧ Owned w0 W' (K ++ (q' ++ T))
  | .exit id, _, W' => ∃ q', Ix (.exit id) xs q' ∧ Owned w0 W' (K ++ (q' ++ T))
  | .goto t, _, W' => ∃ q', Ix (.goto t) xs q' ∧ Owned w0 W' (K ++ (q' ++ T))
  | .panic _, _, _ => False
  | .outgrown, _, _ => False
/-- **The statement 'for .. range f'.** -/
theorem range_own {α : Type} {g : Operand} {ps : Array Tmp} {assign body : Code} {Qp : Exit → Act → World → Prop} {a : Act} {w w0 : World} {m : Nat}
    {gf : Nat} {lb : Array Value} (hg : a.eval g = .func (.func gf) #[] lb) (eg : ∀ args w, (callFunc gf args).run P w = .ok (.enter gf args) w)
    {encs : α → Array Value} (hps : ∀ x, (encs x).size = ps.size) {R N : Own} {xs : List α} (hseq : Iter P gf lb encs w0 R xs)
    (I : List α → Own → Prop) (Ix : Code → List α → Own → Prop) {q : Own} (h0 : I [] q) (hO : Owned w0 w (q ++ (R ++ N))) (a₁ : α → Act)
    (hassign : ∀ (l : Nat) (x : α) (W : World) (K : Act → World → Prop), K (a₁ x) W →
      assign.wpIn (Fence.wide.inRound l) 9 P (Exit.then K (fun _ _ _ => False)) { tmps := (ps.zip (encs x)).foldl (fun t (p, v) => t.setIfInBounds p v) a.tmps, defers := [] } W)
    (hbody : ∀ (l : Nat) (pre : List α) (x : α) (post : List α), xs = pre ++ x :: post → ∀ (K : Own) (W : World) (q : Own), I pre q → Owned w0 W (K ++ (q ++ (R ++ N))) →
      body.wpIn (Fence.wide.inRound l) 9 P (roundEnd w0 K (R ++ N) I Ix (pre ++ [x])) (a₁ x) W)
    (hdone : ∀ (D : Nat) (W : World) (q : Own), I xs q → Owned w0 W ((D, .deferred (some [])) :: (q ++ (R ++ N))) → Qp .normal { a with defers := { target := .collected D, args := #[] } :: a.defers } W)
    (hstop : ∀ (D : Nat) (c : Code) (pre : List α) (W : World) (q : Own), pre <+: xs → Ix c pre q → Owned w0 W ((D, .deferred (some [])) :: (q ++ (R ++ N))) → c.wpIn Fence.wide m P Qp { a with defers := { target := .collected D, args := #[] } :: a.defers } W) :
    (Code.rangeFunc g ps assign body).wpIn Fence.wide m P Qp a w := by
  refine wpIn_rangeFunc ?_
  intro fn hfn
  obtain ⟨rec, hrec⟩ : ∃ rec : LoopState → Option Code → Loop, rec = fun st pe => { state := st, pending := pe, fn, tmps := a.tmps, params := ps, assign, body, defers := w.heap.size } := ⟨_, rfl⟩
  obtain ⟨W1, hW1⟩ : ∃ W1, (w.alloc (.deferred (some []))).alloc (.loop (rec .ready none)) = W1 := ⟨_, rfl⟩
  have hO1 : Owned w0 W1 ((w.heap.size, .deferred (some [])) :: (w.heap.size + 1, .loop (rec .ready none)) :: (q ++ (R ++ N))) := by rw [← hW1]; exact hO.alloc2 _ _
  obtain ⟨D, hD⟩ : ∃ D, w.heap.size = D := ⟨_, rfl⟩
  refine ⟨w.heap.size + 1, [{ target := .collected w.heap.size, args := #[] }], W1, { target := .fn (.func gf) lb, args := #[.func (.yield (w.heap.size + 1)) #[] #[]] }, W1, gf,
    #[.func (.yield (w.heap.size + 1)) #[] #[]] ++ lb, W1, ?_, ?_, fun _ _ => trivial, ?_, fun h => by simp [Fence.wide] at h, ?_⟩
  · rw [← hW1, hrec]; exact run_enterLoop_outer _ _ _ _ _
  · simp only [resolve, hg]
    simp [go_sem]
  · simp [invoke, go_sem, eg]
  · rw [hD] at hO1 hrec ⊢
    have hl : ∀ {k : Own} {st : LoopState} {pe : Option Code} {W : World} {l : Own}, Owned w0 W (k ++ ((D, .deferred (some [])) :: (D + 1, .loop (rec st pe)) :: l)) → W.heap[D + 1]? = some (.loop (rec st pe)) :=
      fun {k st pe W l} h => (h.at_ (D + 1, .loop (rec st pe)) (by simp)).2
    have hput : ∀ {k : Own} {st st' : LoopState} {pe pe' : Option Code} {W : World} {l : Own}, Owned w0 W (k ++ ((D, .deferred (some [])) :: (D + 1, .loop (rec st pe)) :: l)) →
        Owned w0 (W.putObj (D + 1) (.loop (rec st' pe'))) (k ++ ((D, .deferred (some [])) :: (D + 1, .loop (rec st' pe')) :: l)) := fun {k st st' pe pe' W l} h => by
      have h1 : Owned w0 W ((k ++ [(D, .deferred (some []))]) ++ ((D + 1, .loop (rec st pe)) :: l)) := by rw [List.append_assoc]; exact h
      have h2 := h1.put_in (.loop (rec st' pe'))
      rw [List.append_assoc] at h2
      exact h2
    refine callsIn_any rfl ((hseq (D + 1) N
      (fun pre q' => ∃ q, q' = (D, .deferred (some [])) :: (D + 1, .loop (rec .ready none)) :: q ∧ I pre q)
      (fun pre q' => ∃ q c, q' = (D, .deferred (some [])) :: (D + 1, .loop (rec .done (some c))) :: q ∧ Ix c pre q)
      W1 _ ?_ ⟨q, rfl, h0⟩ hO1).mono ?_)
    · rintro pre x post hx K W _ ⟨q, rfl, hi⟩ hOw
      have hy := run_yield (P := P) (args := encs x) (hl hOw) (by rw [hrec]; exact hps x)
      rw [hrec] at hy
      refine ⟨fn, _, assign, body, hy, roundIn_of_wpIn hfn (hassign _ x W _ ?_)⟩
      clear hy
      have hbusy : Owned w0 (W.putObj (D + 1) (.loop (rec .busy none))) (K ++ ((D, .deferred (some [])) :: (D + 1, .loop (rec .busy none)) :: (q ++ (R ++ N)))) := hput hOw
      have hbr := run_beginRound (P := P) (hl hOw) (by rw [hrec])
      refine ⟨_, hbr, ?_⟩
      have e1 : ({ rec .ready none with state := .busy } : Loop) = rec .busy none := by rw [hrec]
      rw [e1]
      have hbusy2 : Owned w0 (W.putObj (D + 1) (.loop (rec .busy none))) ((K ++ [(D, .deferred (some [])), (D + 1, .loop (rec .busy none))]) ++ (q ++ (R ++ N))) := by rw [List.append_assoc]; exact hbusy
      refine wpIn_mono (hbody (D + 1) pre x post hx _ _ q hi hbusy2) ?_
      have fin : ∀ (jump : Option Code) (W3 : World) (q' : Own), Owned w0 W3 ((K ++ [(D, .deferred (some [])), (D + 1, .loop (rec .busy none))]) ++ (q' ++ (R ++ N))) →
          (Instr.endRound (D + 1) jump).run P W3 = .ok (.bool jump.isNone) (W3.putObj (D + 1) (.loop (rec (if jump.isNone then .ready else .done) jump))) ∧
          Owned w0 (W3.putObj (D + 1) (.loop (rec (if jump.isNone then .ready else .done) jump))) (K ++ (((D, .deferred (some [])) :: (D + 1, .loop (rec (if jump.isNone then .ready else .done) jump)) :: q') ++ (R ++ N))) := fun jump W3 q' h => by
        rw [List.append_assoc] at h
        have hr := run_endRound (P := P) jump (hl (k := K) h)
        refine ⟨?_, hput (k := K) h⟩
        rw [hr, hrec]
      rintro e a3 W3 hp
      cases e with
      | normal =>
        obtain ⟨q', hi', hO'⟩ := hp
        obtain ⟨hr, hO4⟩ := fin none W3 q' hO'
        exact ⟨_, _, hr, .inl ⟨rfl, _, ⟨q', rfl, hi'⟩, hO4⟩⟩
      | ret =>
        obtain ⟨q', hi', hO'⟩ := hp
        obtain ⟨hr, hO4⟩ := fin (some .ret) W3 q' hO'
        exact ⟨_, _, hr, .inr ⟨rfl, _, ⟨q', .ret, rfl, hi'⟩, hO4⟩⟩
      | exit id =>
        obtain ⟨q', hi', hO'⟩ := hp
        obtain ⟨hr, hO4⟩ := fin (some (.exit id)) W3 q' hO'
        exact ⟨_, _, hr, .inr ⟨rfl, _, ⟨q', .exit id, rfl, hi'⟩, hO4⟩⟩
      | goto t =>
        obtain ⟨q', hi', hO'⟩ := hp
        obtain ⟨hr, hO4⟩ := fin (some (.goto t)) W3 q' hO'
        exact ⟨_, _, hr, .inr ⟨rfl, _, ⟨q', .goto t, rfl, hi'⟩, hO4⟩⟩
      | panic ch => exact hp.elim
      | outgrown => exact hp.elim
    · rintro e W2 ⟨⟨v, rfl⟩, (⟨_, ⟨q', rfl, hi⟩, hO2⟩ | ⟨pre, _, hpre, ⟨q', c, rfl, hi⟩, hO2⟩)⟩
      · have hlp := hl (k := []) hO2
        refine ⟨none, _, by have := run_endLoop (P := P) hlp (by rw [hrec]; simp); rw [hrec] at this; exact this, hdone D _ q' hi ?_⟩
        exact ((Owned.swap hO2).put _).tail
      · have hlp := hl (k := []) hO2
        refine ⟨some c, _, by have := run_endLoop (P := P) hlp (by rw [hrec]; simp); rw [hrec] at this; exact this, hstop D c pre _ q' hpre hi ?_⟩
        exact ((Owned.swap hO2).put _).tail
/-- append(v, y), y one cell, in a fenced walk. -/
theorem append_one_in {F : Fence} {n' : Nat} {ops : Array Oper} {rest : List Oper} {o : Oper} {a : Act} {Q : Exit → Act → World → Prop} {w0 w : World} (hgd : o.guard = none) (s x : Operand) (t : TypeId)
    (ho : o.op = .call { callee := .builtin .append, args := #[s, x], argTypes := #[t, t] })
    (e : TypeId) (z : Value) (bytes : Nat) (ht : P.underlying t = some (.slice e)) (hinfo : (P.info? e).map (fun i => (i.zero, i.size, i.bytes)) = some (some z, 1, bytes))
    (hzs : z.cells.size = 1) (v : Value) (n : Nat) (xs : List Value) (r l : Own) (y : Value) (hs : a.eval s = v) (hr : Row e 1 v n xs r) (hO : Owned w0 w (r ++ l))
    (hx : a.eval x = .slice (some ⟨w.heap.size, 0, none⟩) 1 1) (h1 : y.oneCell' = true) (h63 : n + 1 ≤ maxLen) (hbytes : (n + 1) * bytes ≤ 140737488355328)
    (h : ∀ v' r' w', Row e 1 v' (n + 1) (xs ++ [y]) r' → Owned w0 w' (r' ++ l) → wpListIn F n' P ops Q rest (a.put o.dst v') w') :
    wpListIn F n' P ops Q (o :: rest) a (w.alloc (.cells #[y] e)) := by
  obtain ⟨i0, hi, hz0, hz1, hz2⟩ := info_parts hinfo
  have hO1 := hO.alloc_ (.cells #[y] e)
  refine wpListIn_plain hgd fun K hK' => ?_
  obtain ⟨v', w', hrun, r1, r2, -, hat⟩ := run_append_own_at (P := P) (w.alloc (.cells #[y] e)) w0.heap.size t o.type e i0 z 1 bytes ht hi hz0 hz1 hz2 hzs (by omega) v n xs (hO1.ownsRow hr) ⟨w.heap.size, 0, none⟩ 1 1 [y] rfl (cell_one_new w y e) (by simpa using h1) h63 hbytes hO1.size
  obtain ⟨r', hr', hO'⟩ := hO1.appended hr r1 r2 hat
  unfold Oper.wpIn
  refine ⟨?_, ?_⟩
  · simp [Oper.about, ho, resolve, Target.leads, Sem.run_pure]
  · rw [Oper.semAt_plain F _ _ (by rw [ho]; intro c hc'; cases hc')]
    simp [execOp, ho, resolve, invoke, builtin, hs, hx, hrun, Result.andThen]
    exact hK' _ _ (h v' r' w' hr' hO')
end Go.Sep
