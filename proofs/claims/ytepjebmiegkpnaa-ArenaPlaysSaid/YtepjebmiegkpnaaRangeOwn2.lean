/- A loop over an iterator, over own memory: the loop's variables may be boxed (each round's assignment lays blocks). -/
import Derived.Test.YtepjebmiegkpnaaRangeOwn
namespace Go.Sep
open Go Go.RowKit
variable {P : Program}
/-- **The statement 'for .. range f'**, the assignment of its variables laying blocks. -/
theorem range_own2 {α : Type} {g : Operand} {ps : Array Tmp} {assign body : Code} {Qp : Exit → Act → World → Prop} {a : Act} {w w0 : World} {m : Nat}
    {gf : Nat} {lb : Array Value} (hg : a.eval g = .func (.func gf) #[] lb) (eg : ∀ args w, (callFunc gf args).run P w = .ok (.enter gf args) w)
    {encs : α → Array Value} (hps : ∀ x, (encs x).size = ps.size) {R N : Own} {xs : List α} (hseq : Iter P gf lb encs w0 R xs)
    (I : List α → Own → Prop) (Ix : Code → List α → Own → Prop) {q : Own} (h0 : I [] q) (hO : Owned w0 w (q ++ (R ++ N))) (Ax : α → Own → Act → Prop)
    (hassign : ∀ (l : Nat) (x : α) (W : World) (T : Own), Owned w0 W T →
      assign.wpIn (Fence.wide.inRound l) 9 P (Exit.then (fun a' W' => ∃ K', Ax x K' a' ∧ Owned w0 W' (K' ++ T)) (fun _ _ _ => False)) { tmps := (ps.zip (encs x)).foldl (fun t (p, v) => t.setIfInBounds p v) a.tmps, defers := [] } W)
    (hbody : ∀ (l : Nat) (pre : List α) (x : α) (post : List α), xs = pre ++ x :: post → ∀ (K' : Own) (a' : Act), Ax x K' a' → ∀ (K : Own) (W : World) (q : Own), I pre q → Owned w0 W (K' ++ (K ++ (q ++ (R ++ N)))) →
      body.wpIn (Fence.wide.inRound l) 9 P (roundEnd w0 K (R ++ N) I Ix (pre ++ [x])) a' W)
    (hdone : ∀ (D : Nat) (W : World) (q : Own), I xs q → Owned w0 W ((D, .deferred (some [])) :: (q ++ (R ++ N))) → Qp .normal { a with defers := { target := .collected D, args := #[] } :: a.defers } W)
    (hstop : ∀ (D : Nat) (c : Code) (pre : List α) (W : World) (q : Own), pre <+: xs → Ix c pre q → Owned w0 W ((D, .deferred (some [])) :: (q ++ (R ++ N))) → c.wpIn Fence.wide m P Qp { a with defers := { target := .collected D, args := #[] } :: a.defers } W) :
    (Code.rangeFunc g ps assign body).wpIn Fence.wide m P Qp a w := by
  refine wpIn_rangeFunc ?_
  intro fn hfn
  obtain ⟨rec, hrec⟩ : ∃ rec : LoopState → Option Code → Loop, rec = fun st pe => { state := st, pending := pe, fn, tmps := a.tmps, params := ps, assign, body, defers := w.heap.size } := ⟨_, rfl⟩
  obtain ⟨W1, hW1⟩ : ∃ W1, (w.alloc (.deferred (some []))).alloc (.loop (rec .ready none)) = W1 := ⟨_, rfl⟩
  have hO1 : Owned w0 W1 ((w.heap.size, .deferred (some [])) :: (w.heap.size + 1, .loop (rec .ready none)) :: (q ++ (R ++ N))) := by rw [← hW1]; exact hO.alloc2 _ _
  obtain ⟨D, hD⟩ : ∃ D, w.heap.size = D := ⟨_, rfl⟩
  refine ⟨w.heap.size + 1, [{ target := .collected w.heap.size, args := #[] }], W1, { target := .fn (.func gf) lb, args := #[.func (.yield (w.heap.size + 1)) #[] #[]] }, W1, gf,
    #[.func (.yield (w.heap.size + 1)) #[] #[]] ++ lb, W1, ?_, ?_, fun _ _ => trivial, ?_, fun h => by simp [Fence.wide] at h, ?_⟩
  · rw [← hW1, hrec]; exact run_enterLoop_outer _ _ _ _ _
  · simp only [resolve, hg]
    simp [go_sem]
  · simp [invoke, go_sem, eg]
  · rw [hD] at hO1 hrec ⊢
    have hl : ∀ {k : Own} {st : LoopState} {pe : Option Code} {W : World} {l : Own}, Owned w0 W (k ++ ((D, .deferred (some [])) :: (D + 1, .loop (rec st pe)) :: l)) → W.heap[D + 1]? = some (.loop (rec st pe)) :=
      fun {k st pe W l} h => (h.at_ (D + 1, .loop (rec st pe)) (by simp)).2
    have hput : ∀ {k : Own} {st st' : LoopState} {pe pe' : Option Code} {W : World} {l : Own}, Owned w0 W (k ++ ((D, .deferred (some [])) :: (D + 1, .loop (rec st pe)) :: l)) →
        Owned w0 (W.putObj (D + 1) (.loop (rec st' pe'))) (k ++ ((D, .deferred (some [])) :: (D + 1, .loop (rec st' pe')) :: l)) := fun {k st st' pe pe' W l} h => by
      have h1 : Owned w0 W ((k ++ [(D, .deferred (some []))]) ++ ((D + 1, .loop (rec st pe)) :: l)) := by rw [List.append_assoc]; exact h
      have h2 := h1.put_in (.loop (rec st' pe'))
      rw [List.append_assoc] at h2
      exact h2
    refine callsIn_any rfl ((hseq (D + 1) N
      (fun pre q' => ∃ q, q' = (D, .deferred (some [])) :: (D + 1, .loop (rec .ready none)) :: q ∧ I pre q)
      (fun pre q' => ∃ q c, q' = (D, .deferred (some [])) :: (D + 1, .loop (rec .done (some c))) :: q ∧ Ix c pre q)
      W1 _ ?_ ⟨q, rfl, h0⟩ hO1).mono ?_)
    · rintro pre x post hx K W _ ⟨q, rfl, hi⟩ hOw
      have hy := run_yield (P := P) (args := encs x) (hl hOw) (by rw [hrec]; exact hps x)
      rw [hrec] at hy
      refine ⟨fn, _, assign, body, hy, roundIn_of_wpIn hfn (wpIn_mono (hassign _ x W _ hOw) ?_)⟩
      clear hy
      rintro e a' Wa hp
      cases e with
      | normal =>
        obtain ⟨K', hax, hOa⟩ := hp
        have hOa2 : Owned w0 Wa ((K' ++ K) ++ ((D, .deferred (some [])) :: (D + 1, .loop (rec .ready none)) :: (q ++ (R ++ N)))) := by rw [List.append_assoc]; exact hOa
        have hbusy : Owned w0 (Wa.putObj (D + 1) (.loop (rec .busy none))) ((K' ++ K) ++ ((D, .deferred (some [])) :: (D + 1, .loop (rec .busy none)) :: (q ++ (R ++ N)))) := hput hOa2
        have hbr := run_beginRound (P := P) (hl hOa2) (by rw [hrec])
        refine ⟨_, hbr, ?_⟩
        have e1 : ({ rec .ready none with state := .busy } : Loop) = rec .busy none := by rw [hrec]
        rw [e1]
        have hbusy2 : Owned w0 (Wa.putObj (D + 1) (.loop (rec .busy none))) (K' ++ ((K ++ [(D, .deferred (some [])), (D + 1, .loop (rec .busy none))]) ++ (q ++ (R ++ N)))) := by
          rw [List.append_assoc] at hbusy
          rw [List.append_assoc]
          exact hbusy
        refine wpIn_mono (hbody (D + 1) pre x post hx K' a' hax _ _ q hi hbusy2) ?_
        have fin : ∀ (jump : Option Code) (W3 : World) (q' : Own), Owned w0 W3 ((K ++ [(D, .deferred (some [])), (D + 1, .loop (rec .busy none))]) ++ (q' ++ (R ++ N))) →
            (Instr.endRound (D + 1) jump).run P W3 = .ok (.bool jump.isNone) (W3.putObj (D + 1) (.loop (rec (if jump.isNone then .ready else .done) jump))) ∧
            Owned w0 (W3.putObj (D + 1) (.loop (rec (if jump.isNone then .ready else .done) jump))) (K ++ (((D, .deferred (some [])) :: (D + 1, .loop (rec (if jump.isNone then .ready else .done) jump)) :: q') ++ (R ++ N))) := fun jump W3 q' h => by
          rw [List.append_assoc] at h
          have hr := run_endRound (P := P) jump (hl (k := K) h)
          refine ⟨?_, hput (k := K) h⟩
          rw [hr, hrec]
        rintro e a3 W3 hp
        cases e with
        | normal =>
          obtain ⟨q', hi', hO'⟩ := hp
          obtain ⟨hr, hO4⟩ := fin none W3 q' hO'
          exact ⟨_, _, hr, .inl ⟨rfl, _, ⟨q', rfl, hi'⟩, hO4⟩⟩
        | ret =>
          obtain ⟨q', hi', hO'⟩ := hp
          obtain ⟨hr, hO4⟩ := fin (some .ret) W3 q' hO'
          exact ⟨_, _, hr, .inr ⟨rfl, _, ⟨q', .ret, rfl, hi'⟩, hO4⟩⟩
        | exit id =>
          obtain ⟨q', hi', hO'⟩ := hp
          obtain ⟨hr, hO4⟩ := fin (some (.exit id)) W3 q' hO'
          exact ⟨_, _, hr, .inr ⟨rfl, _, ⟨q', .exit id, rfl, hi'⟩, hO4⟩⟩
        | goto t =>
          obtain ⟨q', hi', hO'⟩ := hp
          obtain ⟨hr, hO4⟩ := fin (some (.goto t)) W3 q' hO'
          exact ⟨_, _, hr, .inr ⟨rfl, _, ⟨q', .goto t, rfl, hi'⟩, hO4⟩⟩
        | panic ch => exact hp.elim
        | outgrown => exact hp.elim
      | exit id => exact hp.elim
      | goto t => exact hp.elim
      | ret => exact hp.elim
      | panic ch => exact hp.elim
      | outgrown => exact hp.elim
    · rintro e W2 ⟨⟨v, rfl⟩, (⟨_, ⟨q', rfl, hi⟩, hO2⟩ | ⟨pre, _, hpre, ⟨q', c, rfl, hi⟩, hO2⟩)⟩
      · have hlp := hl (k := []) hO2
        refine ⟨none, _, by have := run_endLoop (P := P) hlp (by rw [hrec]; simp); rw [hrec] at this; exact this, hdone D _ q' hi ?_⟩
        exact ((Owned.swap hO2).put _).tail
      · have hlp := hl (k := []) hO2
        refine ⟨some c, _, by have := run_endLoop (P := P) hlp (by rw [hrec]; simp); rw [hrec] at this; exact this, hstop D c pre _ q' hpre hi ?_⟩
        exact ((Owned.swap hO2).put _).tail
/-- append(v, u...), in a fenced walk. -/
theorem append_row_in {F : Fence} {n' : Nat} {ops : Array Oper} {rest : List Oper} {o : Oper} {a : Act} {Q : Exit → Act → World → Prop} {w0 w : World} (hgd : o.guard = none) (s x : Operand) (t : TypeId)
    (ho : o.op = .call { callee := .builtin .append, args := #[s, x], argTypes := #[t, t] })
    (e : TypeId) (z : Value) (size bytes : Nat) (ht : P.underlying t = some (.slice e)) (hinfo : (P.info? e).map (fun i => (i.zero, i.size, i.bytes)) = some (some z, size, bytes))
    (hzs : z.cells.size = size) (hsz : 0 < size) (v : Value) (n : Nat) (xs : List Value) (r l : Own) (hs : a.eval s = v) (hr : Row e size v n xs r) (hO : Owned w0 w (r ++ l))
    (ad : Addr) (m c : Nat) (news : List Value) (hx : a.eval x = .slice (some ad) m c) (hl : news.length = m * size) (hnews : ∀ j u, news[j]? = some u → w.cell? (ad.add j) = some u) (h1 : ∀ u ∈ news, u.oneCell' = true)
    (h63 : n + m ≤ maxLen) (hbytes : (n + m) * bytes ≤ 140737488355328)
    (h : ∀ v' r' w', Row e size v' (n + m) (xs ++ news) r' → Owned w0 w' (r' ++ l) → wpListIn F n' P ops Q rest (a.put o.dst v') w') :
    wpListIn F n' P ops Q (o :: rest) a w := by
  obtain ⟨i0, hi, hz0, hz1, hz2⟩ := info_parts hinfo
  refine wpListIn_plain hgd fun K hK' => ?_
  obtain ⟨v', w', hrun, r1, r2, -, hat⟩ := run_append_own_at (P := P) w w0.heap.size t o.type e i0 z size bytes ht hi hz0 hz1 hz2 hzs hsz v n xs (hO.ownsRow hr) ad m c news hl hnews h1 h63 hbytes hO.size
  obtain ⟨r', hr', hO'⟩ := hO.appended hr r1 r2 hat
  unfold Oper.wpIn
  refine ⟨?_, ?_⟩
  · simp [Oper.about, ho, resolve, Target.leads, Sem.run_pure]
  · rw [Oper.semAt_plain F _ _ (by rw [ho]; intro c hc'; cases hc')]
    simp [execOp, ho, resolve, invoke, builtin, hs, hx, hrun, Result.andThen]
    exact hK' _ _ (h v' r' w' hr' hO')
end Go.Sep
