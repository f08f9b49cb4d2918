/- The statements of layer 6: ArenaPlays: both arenas' answers as functions of what they hold. -/
import Derived.Test.YtepjebmiegkpnaaArAll3
import Derived.Test.YtepjebmiegkpnaaRefAr4
import Derived.Test.YtepjebmiegkpnaaRefAr7
namespace Go.Proofs.Ytepjebmiegkpnaa
open Go.RowKit Go.Sep
def putF (M : Nat) (S : Nodes6) (G : List Nat) (p : Int × Int) : Nodes6 × List Nat × Int × Int :=
  if M + G.length ≤ S.length then (S, G, 0, 2) else match G with
    | [] => (S ++ [some p], [], ((S.length + 1 : Nat) : Int), 0)
    | x :: G' => (S.set (x - 1) (some p), G', ((x : Nat) : Int), 0)
def dropF (S : Nodes6) (G : List Nat) (id : Int) : Nodes6 × List Nat × Int := match look S id with
  | none => (S, G, 3)
  | some _ => (S.set (id.toNat - 1) none, id.toNat :: G, 0)
def setF (S : Nodes6) (id : Int) (p : Int × Int) : Nodes6 × Int := match look S id with
  | none => (S, 3)
  | some _ => (S.set (id.toNat - 1) (some p), 0)
def getF (S : Nodes6) (id : Int) : (Int × Int) × Int := match look S id with
  | none => ((0, 0), 3)
  | some p => (p, 0)
theorem putF_len (M : Nat) (S : Nodes6) (G : List Nat) (p : Int × Int) : (putF M S G p).1.length ≤ S.length + 1 := by
  unfold putF
  split
  · exact Nat.le_succ _
  · cases G with
    | nil => simp
    | cons x G' => simp
theorem dropF_len (S : Nodes6) (G : List Nat) (id : Int) : (dropF S G id).1.length = S.length := by
  unfold dropF
  split <;> simp
theorem setF_len (S : Nodes6) (id : Int) (p : Int × Int) : (setF S id p).1.length = S.length := by
  unfold setF
  split <;> simp
/-- what is held, by numbers -/
def allN : Nat → Nodes6 → List (Nat × Int × Int)
  | _, [] => []
  | i, none :: S => allN (i + 1) S
  | i, some p :: S => (i, p.1, p.2) :: allN (i + 1) S
theorem allN_len : ∀ (S : Nodes6) (i : Nat), (allN i S).length ≤ S.length
  | [], _ => Nat.le_refl _
  | none :: S, i => by have := allN_len S (i + 1); rw [allN, List.length_cons]; omega
  | some p :: S, i => by have := allN_len S (i + 1); rw [allN, List.length_cons, List.length_cons]; omega
theorem allN_append : ∀ (a b : Nodes6) (i : Nat), allN i (a ++ b) = allN i a ++ allN (i + a.length) b
  | [], b, i => rfl
  | none :: a, b, i => by
    rw [List.cons_append, allN, allN, allN_append a b (i + 1), List.length_cons, show i + 1 + a.length = i + (a.length + 1) by omega]
  | some p :: a, b, i => by
    rw [List.cons_append, allN, allN, allN_append a b (i + 1), List.length_cons, show i + 1 + a.length = i + (a.length + 1) by omega]
    rfl
/-- how many are held below a number -/
def cntN (S : Nodes6) (i : Nat) : Nat := (allN 1 (S.take i)).length
theorem cntN_none {S : Nodes6} {i : Nat} (h : S[i]? = some none) : cntN S (i + 1) = cntN S i := by
  unfold cntN
  rw [List.take_add_one, h, allN_append]
  show (allN 1 (S.take i) ++ []).length = _
  rw [List.append_nil]
theorem cntN_some {S : Nodes6} {i : Nat} {p : Int × Int} (h : S[i]? = some (some p)) : cntN S (i + 1) = cntN S i + 1 ∧ (allN 1 S)[cntN S i]? = some (i + 1, p.1, p.2) := by
  have hlt : i < S.length := (List.getElem?_eq_some_iff.1 h).1
  have hl : (S.take i).length = i := by rw [List.length_take, Nat.min_eq_left (by omega)]
  have e : allN 1 (S.take (i + 1)) = allN 1 (S.take i) ++ [(i + 1, p.1, p.2)] := by
    rw [List.take_add_one, h, allN_append, hl, Nat.add_comm 1 i]
    rfl
  constructor
  · unfold cntN
    rw [e]
    simp
  · have e2 : allN 1 S = allN 1 (S.take (i + 1)) ++ allN (1 + (S.take (i + 1)).length) (S.drop (i + 1)) := by
      rw [← allN_append, List.take_append_drop]
    unfold cntN
    rw [e2, e, List.append_assoc, List.getElem?_append_right (Nat.le_refl _), Nat.sub_self]
    rfl
theorem cntN_all (S : Nodes6) : cntN S S.length = (allN 1 S).length := by
  unfold cntN
  rw [List.take_length]
theorem held_allN (sl0 : List Sl) (G : List Nat) (gone : Nat) (hch : Chain sl0 gone G) : ∀ (S : Nodes6) (i : Nat) (sl : List Sl), sl.length = S.length → (∀ (t : Nat) (s : Sl), sl[t]? = some s → sl0[i + t]? = some s) →
    (∀ (t : Nat) (k v : Int), S[t]? = some (some (k, v)) → sl[t]? = some (⟨k, v, true, 0⟩ : Sl)) → (∀ t : Nat, S[t]? = some none → i + t ∈ G) → heldOf (enumS i sl) = allN i S
  | [], i, [], _, _, _, _ => rfl
  | [], i, _ :: _, h, _, _, _ => by cases h
  | _ :: _, i, [], h, _, _, _ => by cases h
  | o :: S, i, s :: sl, hl, h0, h1, h2 => by
    have ih := held_allN sl0 G gone hch S (i + 1) sl (by simpa using hl) (fun t s ht => by have := h0 (t + 1) s (by simpa using ht); rw [show i + 1 + t = i + (t + 1) by omega]; exact this)
      (fun t k v ht => by have := h1 (t + 1) k v (by simpa using ht); simpa using this) (fun t ht => by have := h2 (t + 1) (by simpa using ht); rw [show i + 1 + t = i + (t + 1) by omega]; exact this)
    cases o with
    | none =>
      obtain ⟨nx, hx⟩ := chain_mem hch (h2 0 rfl)
      have hx2 := h0 0 s rfl
      rw [hx] at hx2
      cases hx2
      rw [enumS, heldOf, if_neg (by simp), ih, allN]
    | some p =>
      have hx := h1 0 p.1 p.2 rfl
      simp at hx
      subst hx
      rw [enumS, heldOf, if_pos rfl, ih, allN]
theorem ar_held {sl : List Sl} {gone held : Nat} {S : Nodes6} {G : List Nat} (h : AR sl gone held S G) : heldOf (enumS 0 sl) = allN 1 S := by
  have hz := h.zero
  have hl := h.len
  cases sl with
  | nil => cases hz
  | cons s sl' =>
    simp at hz
    subst hz
    rw [enumS, heldOf, if_neg (by simp)]
    exact held_allN _ G gone h.chain S 1 sl' (by simpa using hl) (fun t s ht => by rw [Nat.add_comm 1 t]; simpa using ht) (fun t k v ht => by have := h.some_ t k v ht; simpa using this) (fun t ht => by have := h.none_ t ht; rwa [Nat.add_comm] at this)
section
variable {g M : Nat} {S : Nodes6} {G : List Nat} {w0 w : World} {F r : Sep.Own}
theorem Arena.facts (hr : Arena g M S G r) : S.length + 1 ≤ 100000 ∧ G.length ≤ S.length ∧ ∀ x ∈ G, 1 ≤ x ∧ x ≤ S.length := by
  refine ⟨hr.len, ?_⟩
  obtain ⟨sl, gone, held, hc, ha⟩ := hr
  refine ⟨by have := ha.held_; omega, fun x hx => ?_⟩
  obtain ⟨i, rfl, hi⟩ := ha.free x hx
  have := (List.getElem?_eq_some_iff.1 hi).1
  omega
theorem ar_putF (k v : Int) (hr : Arena g M S G r) (hM : M ≤ 65536) (h : Owned w0 w (r ++ F)) :
    Calls Try.prog 10 #[.pointer (some ⟨g, 0, none⟩), .agg #[.int .i64 k, .int .i64 v]] w (Did w0 F g M (putF M S G (k, v)).1 (putF M S G (k, v)).2.1 (.tuple #[.int .i64 (putF M S G (k, v)).2.2.1, .int .i64 (putF M S G (k, v)).2.2.2])) := by
  by_cases hf : M + G.length ≤ S.length
  · have e : putF M S G (k, v) = (S, G, 0, 2) := by unfold putF; rw [if_pos hf]
    rw [e]
    dsimp only
    exact ar_put_full k v hr hf h
  · cases G with
    | nil =>
      have e : putF M S [] (k, v) = (S ++ [some (k, v)], [], ((S.length + 1 : Nat) : Int), 0) := by unfold putF; rw [if_neg hf]
      rw [e]
      dsimp only
      simp only [List.length_nil] at hf
      exact ar_put_new k v hr (by omega) (by omega) h
    | cons x G' =>
      have e : putF M S (x :: G') (k, v) = (S.set (x - 1) (some (k, v)), G', ((x : Nat) : Int), 0) := by unfold putF; rw [if_neg hf]
      rw [e]
      dsimp only
      simp only [List.length_cons] at hf
      exact ar_put_again k v hr (by omega) h
theorem ra_putF (k v : Int) (hr : RefAr g M S G r) (hM : M ≤ 65536) (hn : S.length + 1 ≤ 100000) (hG : G.length ≤ S.length) (hx : ∀ x ∈ G, 1 ≤ x ∧ x ≤ S.length) (h : Owned w0 w (r ++ F)) :
    Calls Try.prog 17 #[.pointer (some ⟨g, 0, none⟩), .agg #[.int .i64 k, .int .i64 v]] w (RDid w0 F g M (putF M S G (k, v)).1 (putF M S G (k, v)).2.1 (.tuple #[.int .i64 (putF M S G (k, v)).2.2.1, .int .i64 (putF M S G (k, v)).2.2.2])) := by
  by_cases hf : M + G.length ≤ S.length
  · have e : putF M S G (k, v) = (S, G, 0, 2) := by unfold putF; rw [if_pos hf]
    rw [e]
    dsimp only
    exact ra_put_full k v hr hf (by omega) (by omega) h
  · cases G with
    | nil =>
      have e : putF M S [] (k, v) = (S ++ [some (k, v)], [], ((S.length + 1 : Nat) : Int), 0) := by unfold putF; rw [if_neg hf]
      rw [e]
      dsimp only
      simp only [List.length_nil] at hf
      exact ra_put_new k v hr (by omega) (by omega) h
    | cons x G' =>
      have e : putF M S (x :: G') (k, v) = (S.set (x - 1) (some (k, v)), G', ((x : Nat) : Int), 0) := by unfold putF; rw [if_neg hf]
      rw [e]
      dsimp only
      simp only [List.length_cons] at hf hG
      exact ra_put_again k v hr (by omega) (hx x (by simp)) (by omega) (by omega) h
theorem ar_dropF (id : Int) (hr : Arena g M S G r) (h : Owned w0 w (r ++ F)) :
    Calls Try.prog 11 #[.pointer (some ⟨g, 0, none⟩), .int .i64 id] w (Did w0 F g M (dropF S G id).1 (dropF S G id).2.1 (.int .i64 (dropF S G id).2.2)) := by
  unfold dropF
  cases hl : look S id with
  | none =>
    dsimp only
    exact ar_drop_none hl hr h
  | some p =>
    dsimp only
    exact ar_drop (k := p.1) (v := p.2) hl hr h
theorem ra_dropF (id : Int) (hr : RefAr g M S G r) (hn : S.length + 1 ≤ 100000) (hG : G.length ≤ S.length) (h : Owned w0 w (r ++ F)) :
    Calls Try.prog 18 #[.pointer (some ⟨g, 0, none⟩), .int .i64 id] w (RDid w0 F g M (dropF S G id).1 (dropF S G id).2.1 (.int .i64 (dropF S G id).2.2)) := by
  unfold dropF
  cases hl : look S id with
  | none =>
    dsimp only
    exact ra_drop_none hl hr (by omega) h
  | some p =>
    dsimp only
    exact ra_drop (k := p.1) (v := p.2) hl hr (by omega) (by omega) h
theorem ar_setF (id k v : Int) (hr : Arena g M S G r) (h : Owned w0 w (r ++ F)) :
    Calls Try.prog 15 #[.pointer (some ⟨g, 0, none⟩), .int .i64 id, .agg #[.int .i64 k, .int .i64 v]] w (Did w0 F g M (setF S id (k, v)).1 G (.int .i64 (setF S id (k, v)).2)) := by
  unfold setF
  cases hl : look S id with
  | none =>
    dsimp only
    exact ar_set_none k v hl hr h
  | some p =>
    dsimp only
    exact ar_set (k := p.1) (v := p.2) k v hl hr h
theorem ra_setF (id k v : Int) (hr : RefAr g M S G r) (hn : S.length + 1 ≤ 100000) (h : Owned w0 w (r ++ F)) :
    Calls Try.prog 19 #[.pointer (some ⟨g, 0, none⟩), .int .i64 id, .agg #[.int .i64 k, .int .i64 v]] w (RDid w0 F g M (setF S id (k, v)).1 G (.int .i64 (setF S id (k, v)).2)) := by
  unfold setF
  cases hl : look S id with
  | none =>
    dsimp only
    exact ra_set_none k v hl hr (by omega) h
  | some p =>
    dsimp only
    exact ra_set (k := p.1) (v := p.2) k v hl hr (by omega) h
theorem ar_getF (id : Int) (hr : Arena g M S G r) (h : Owned w0 w (r ++ F)) :
    Calls Try.prog 12 #[.pointer (some ⟨g, 0, none⟩), .int .i64 id] w (Said w0 (r ++ F) (.tuple #[.agg #[.int .i64 (getF S id).1.1, .int .i64 (getF S id).1.2], .int .i64 (getF S id).2])) := by
  unfold getF
  cases hl : look S id with
  | none =>
    dsimp only
    exact ar_get_none hl hr h
  | some p =>
    dsimp only
    exact ar_get (k := p.1) (v := p.2) hl hr h
theorem ra_getF (id : Int) (hr : RefAr g M S G r) (hn : S.length + 1 ≤ 100000) (h : Owned w0 w (r ++ F)) :
    Calls Try.prog 20 #[.pointer (some ⟨g, 0, none⟩), .int .i64 id] w (Said w0 (r ++ F) (.tuple #[.agg #[.int .i64 (getF S id).1.1, .int .i64 (getF S id).1.2], .int .i64 (getF S id).2])) := by
  unfold getF
  cases hl : look S id with
  | none =>
    dsimp only
    exact ra_get_none hl hr (by omega) h
  | some p =>
    dsimp only
    exact ra_get (k := p.1) (v := p.2) hl hr (by omega) h
theorem ar_all (m : Nat) (hm : 0 < m ∧ m ≤ 1000000) (hr : Arena g M S G r) (h : Owned w0 w (r ++ F)) :
    Calls Try.prog 22 #[.pointer (some ⟨g, 0, none⟩), .int .i64 (m : Int)] w fun e w' => ∃ v1 v2 q1 q2, e = .returned (.tuple #[v1, v2]) ∧ Row 3 1 v1 ((allN 1 S).take m).length (ints (numsOf ((allN 1 S).take m))) q1 ∧ Row 30 2 v2 ((allN 1 S).take m).length (nodesV ((allN 1 S).take m)) q2 ∧ Owned w0 w' (q1 ++ (q2 ++ (r ++ F))) := by
  have hl := hr.len
  obtain ⟨sl, gone, held, hc, ha⟩ := hr
  rw [← ar_held ha]
  refine all_calls hc m hm ?_ h
  rw [ar_held ha]
  have := allN_len S 1
  omega
end
end Go.Proofs.Ytepjebmiegkpnaa
