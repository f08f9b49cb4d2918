/- Merged texts: Plain facts: doubly linked ways; what an unlinking and a pushing leave. Layer 7: nodes in rows, linked, in memory: what a store into one of them leaves. -/
import Derived.WalkKit
import Derived.Test.YtnhdjpeadhcajaaProg
import Derived.Test.YtnhdjpeadhcajaaK16
namespace DqPure
def upd (f : Nat → Nat) (i v : Nat) : Nat → Nat := fun j => if j = i then v else f j
theorem upd_same (f : Nat → Nat) (i v : Nat) : upd f i v i = v := by unfold upd; rw [if_pos rfl]
theorem upd_ne (f : Nat → Nat) {i j : Nat} (v : Nat) (h : j ≠ i) : upd f i v j = f j := by unfold upd; rw [if_neg h]
/-- the last of a way that begins at a -/
def lst : Nat → List Nat → Nat
  | a, [] => a
  | _, b :: bs => lst b bs
theorem lst_mem : ∀ (bs : List Nat) (a : Nat), lst a bs ∈ a :: bs
  | [], a => by simp [lst]
  | b :: bs, a => List.mem_cons_of_mem _ (lst_mem bs b)
theorem lst_append : ∀ (xs : List Nat) (a b : Nat) (ys : List Nat), lst a (xs ++ b :: ys) = lst b ys
  | [], _, _, _ => rfl
  | x :: xs, _, b, ys => lst_append xs x b ys
def fst : List Nat → Nat → Nat
  | [], z => z
  | b :: _, _ => b
/-- a doubly linked way from a over bs to z -/
def Seg (nx pv : Nat → Nat) : Nat → List Nat → Nat → Prop
  | a, [], z => nx a = z ∧ pv z = a
  | a, b :: bs, z => nx a = b ∧ pv b = a ∧ Seg nx pv b bs z
variable {nx pv nx' pv' : Nat → Nat}
theorem Seg.append {z : Nat} : ∀ {xs : List Nat} {a b : Nat} {ys : List Nat}, Seg nx pv a (xs ++ b :: ys) z ↔ Seg nx pv a xs b ∧ Seg nx pv b ys z
  | [], a, b, ys => by simp only [List.nil_append, Seg, and_assoc]
  | x :: xs, a, b, ys => by
    simp only [List.cons_append, Seg]
    rw [Seg.append (xs := xs)]
    simp only [and_assoc]
theorem Seg.first : ∀ {bs : List Nat} {a z : Nat}, Seg nx pv a bs z → nx a = fst bs z
  | [], _, _, h => h.1
  | _ :: _, _, _, h => h.1
theorem Seg.last : ∀ {bs : List Nat} {a z : Nat}, Seg nx pv a bs z → pv z = lst a bs
  | [], _, _, h => h.2
  | _ :: bs, _, _, h => Seg.last (bs := bs) h.2.2
theorem Seg.congr : ∀ {bs : List Nat} {a z : Nat}, (∀ x ∈ a :: bs, nx' x = nx x) → (∀ x ∈ bs, pv' x = pv x) → pv' z = pv z → Seg nx pv a bs z → Seg nx' pv' a bs z
  | [], a, z, hn, _, hz, h => ⟨by rw [hn a (by simp)]; exact h.1, by rw [hz]; exact h.2⟩
  | b :: bs, a, z, hn, hp, hz, h => ⟨by rw [hn a (by simp)]; exact h.1, by rw [hp b (by simp)]; exact h.2.1,
      Seg.congr (fun x hx => hn x (List.mem_cons_of_mem _ hx)) (fun x hx => hp x (List.mem_cons_of_mem _ hx)) hz h.2.2⟩
/-- the end of a way is turned to another one -/
theorem Seg.retarget : ∀ {bs : List Nat} {a z q : Nat}, (a :: bs).Nodup → q ∉ bs → Seg nx pv a bs z → Seg (upd nx (lst a bs) q) (upd pv q (lst a bs)) a bs q
  | [], a, z, q, _, _, _ => ⟨upd_same _ _ _, upd_same _ _ _⟩
  | b :: bs, a, z, q, hd, hq, h => by
    have hd2 := List.nodup_cons.1 hd
    have hne : a ≠ lst b bs := fun e => hd2.1 (by rw [e]; exact lst_mem bs b)
    refine ⟨(upd_ne _ _ hne).trans h.1, (upd_ne _ _ (fun e => hq (by simp [e]))).trans h.2.1, ?_⟩
    exact Seg.retarget hd2.2 (fun hm => hq (List.mem_cons_of_mem _ hm)) h.2.2
/-- the beginning of a way is turned to another one -/
theorem Seg.reroot {b z p : Nat} {ys : List Nat} (hd : (b :: ys).Nodup) (hp : p ∉ ys) (hz : z ∉ ys) (h : Seg nx pv b ys z) : Seg (upd nx p (fst ys z)) (upd pv (fst ys z) p) p ys z := by
  cases ys with
  | nil => exact ⟨upd_same _ _ _, upd_same _ _ _⟩
  | cons c ys =>
    obtain ⟨_, _, h3⟩ := h
    refine ⟨upd_same _ _ _, upd_same _ _ _, ?_⟩
    have hd2 := (List.nodup_cons.1 (List.nodup_cons.1 hd).2)
    refine Seg.congr (fun x hx => upd_ne _ _ (fun e => hp (by rw [← e]; exact hx))) (fun x hx => upd_ne _ _ (fun e => hd2.1 (by rw [show c = x from e.symm]; exact hx))) (upd_ne _ _ (fun e => hz (by rw [e]; simp [fst]))) h3
theorem nodup_mid {a b : Nat} {xs ys : List Nat} (h : (a :: (xs ++ b :: ys)).Nodup) : (a :: xs).Nodup ∧ (b :: ys).Nodup ∧ b ∉ xs ∧ b ≠ a ∧ a ∉ ys ∧ ∀ x ∈ xs, x ∉ ys := by
  rw [← List.cons_append, List.nodup_append] at h
  obtain ⟨h1, h2, h3⟩ := h
  refine ⟨h1, h2, fun hm => h3 b (by simp [hm]) b (by simp) rfl, fun e => h3 a (by simp) b (by simp) e.symm, fun hm => h3 a (by simp) a (by simp [hm]) rfl, fun x hx hy => h3 x (by simp [hx]) x (by simp [hy]) rfl⟩
/-- one is taken out of a ring -/
theorem Seg.unlink {L b : Nat} {xs ys : List Nat} (hd : (L :: (xs ++ b :: ys)).Nodup) (h : Seg nx pv L (xs ++ b :: ys) L) :
    Seg (upd nx (pv b) (nx b)) (upd pv (nx b) (pv b)) L (xs ++ ys) L := by
  obtain ⟨h1, h2⟩ := Seg.append.1 h
  obtain ⟨n1, n2, n3, n4, n5, n6⟩ := nodup_mid hd
  rw [h1.last, h2.first]
  cases ys with
  | nil =>
    rw [List.append_nil]
    refine Seg.retarget n1 ?_ h1
    exact (List.nodup_cons.1 n1).1
  | cons c ys =>
    refine Seg.append.2 ⟨Seg.retarget n1 (fun hm => n6 c hm (by simp)) h1, ?_⟩
    have n22 := List.nodup_cons.1 (List.nodup_cons.1 n2).2
    have hl := lst_mem xs L
    refine Seg.congr (fun x hx => upd_ne _ _ (fun e => ?_)) (fun x hx => upd_ne _ _ (fun e => n22.1 (by rw [show c = x from e.symm]; exact hx))) (upd_ne _ _ (fun e => n5 (by rw [e]; simp [fst]))) h2.2.2
    rw [e] at hx
    rcases List.mem_cons.1 hl with e2 | hm
    · rw [e2] at hx; exact n5 hx
    · exact n6 _ hm hx
/-- one is put at a ring's end -/
theorem Seg.push {L e : Nat} {bs : List Nat} (hd : (L :: bs).Nodup) (he : e ∉ L :: bs) (h : Seg nx pv L bs L) :
    Seg (upd (upd nx e L) (pv L) e) (upd (upd pv e (pv L)) L e) L (bs ++ [e]) L := by
  have hl := h.last
  have hm := lst_mem bs L
  rw [hl]
  have hne : lst L bs ≠ e := fun e2 => he (by rw [← e2]; exact hm)
  have heL : e ≠ L := fun e2 => he (by simp [e2])
  have h1 : Seg (upd nx e L) (upd pv e (lst L bs)) L bs L := h.congr (fun x hx => upd_ne _ _ (fun e2 => he (by rw [← e2]; exact hx))) (fun x hx => upd_ne _ _ (fun e2 => he (by rw [← e2]; simp [hx]))) (upd_ne _ _ (Ne.symm heL))
  refine Seg.append.2 ⟨?_, ?_⟩
  · have h2 := Seg.retarget (q := e) hd (fun hx => he (by simp [hx])) h1
    refine h2.congr (fun x hx => rfl) (fun x hx => ?_) ?_
    · have hxe : x ≠ e := fun e2 => he (by rw [← e2]; simp [hx])
      have hxL : x ≠ L := fun e2 => (List.nodup_cons.1 hd).1 (by rw [← e2]; exact hx)
      rw [upd_ne _ _ hxL, upd_ne _ _ hxe, upd_ne _ _ hxe, upd_ne _ _ hxe]
    · rw [upd_ne _ _ heL, upd_same, upd_same]
  · exact ⟨by rw [upd_ne _ _ (Ne.symm hne), upd_same], upd_same _ _ _⟩
/-- a way that is touched at others alone -/
theorem Seg.frame {a z b c p q : Nat} {bs : List Nat} (h : Seg nx pv a bs z) (hp : p ∉ a :: bs) (hq : q ∉ z :: bs) : Seg (upd nx p b) (upd pv q c) a bs z :=
  h.congr (fun x hx => upd_ne _ _ (fun e => hp (by rw [← e]; exact hx))) (fun x hx => upd_ne _ _ (fun e => hq (by rw [← e]; simp [hx]))) (upd_ne _ _ (fun e => hq (by rw [← e]; simp)))
end DqPure
namespace Go.Proofs.Ytnhdjpeadhcajaa
open Go.RowKit Go.Sep DqPure
def nptr (b : Nat) : Value := .pointer (some ⟨b, 0, none⟩)
def elemO (id wt : Int) (li pv nx : Nat) : Obj := .cells #[.int .i64 id, .int .i64 wt, nptr li, nptr pv, nptr nx] 88 (0, 0)
def listO (k : Nat) (wt : Int) (len pv nx : Nat) : Obj := .cells #[.int .i64 0, .int .i64 0, .pointer none, nptr pv, nptr nx, .int .i64 (k : Int), .int .i64 wt, .int .i64 (len : Int)] 90 (0, 0)
theorem list_ne_elem {k : Nat} {wt : Int} {len pv nx : Nat} {id wt' : Int} {li pv' nx' : Nat} : listO k wt len pv nx ≠ elemO id wt' li pv' nx' := by
  intro h
  unfold listO elemO at h
  simp at h
def updI (f : Nat → Int) (i : Nat) (v : Int) : Nat → Int := fun j => if j = i then v else f j
theorem updI_same (f : Nat → Int) (i : Nat) (v : Int) : updI f i v i = v := by unfold updI; rw [if_pos rfl]
theorem updI_ne (f : Nat → Int) {i j : Nat} (v : Int) (h : j ≠ i) : updI f i v j = f j := by unfold updI; rw [if_neg h]
def isNode (m : Nat) (L : Nat → Nat) (B : Nat → Prop) (b : Nat) : Prop := B b ∨ ∃ k, k < m ∧ b = L k
/-- rows' ends (m of them, at L k) and elements (those of B) as they stand in memory -/
structure Nodes (X : Own) (m : Nat) (L : Nat → Nat) (B : Nat → Prop) (nx pv li : Nat → Nat) (id wt : Nat → Int) (LW : Nat → Int) (LN : Nat → Nat) (r : Own) : Prop where
  lst : ∀ k, k < m → lookB r (L k) = some (listO k (LW k) (LN k) (pv (L k)) (nx (L k)))
  el : ∀ b, B b → lookB r b = some (elemO (id b) (wt b) (li b) (pv b) (nx b))
  dL : ∀ j k, j < m → k < m → j ≠ k → L j ≠ L k
  oth : ∀ p ∈ X, lookB r p.1 = some p.2 ∧ ¬ isNode m L B p.1
section
variable {X : Own} {m : Nat} {L : Nat → Nat} {B : Nat → Prop} {nx pv li : Nat → Nat} {id wt : Nat → Int} {LW : Nat → Int} {LN : Nat → Nat} {r : Own}
theorem Nodes.sep (h : Nodes X m L B nx pv li id wt LW LN r) {k b : Nat} (hk : k < m) (hb : B b) : b ≠ L k := by
  intro e
  have h1 := h.el b hb
  rw [e, h.lst k hk] at h1
  exact list_ne_elem (Option.some.inj h1)
theorem Nodes.keep (h : Nodes X m L B nx pv li id wt LW LN r) {c : Nat} (hc : isNode m L B c) (o : Obj) : ∀ p ∈ X, lookB (setBk r c o) p.1 = some p.2 ∧ ¬ isNode m L B p.1 :=
  fun p hp => ⟨(look_setBk_ne _ _ (fun e => (h.oth p hp).2 (by rw [e]; exact hc))).trans (h.oth p hp).1, (h.oth p hp).2⟩
/-- what stands at a node, and what a store there leaves -/
theorem Nodes.setNx (h : Nodes X m L B nx pv li id wt LW LN r) {c : Nat} (hc : isNode m L B c) (v : Nat) : ∃ cs t, lookB r c = some (.cells cs t (0, 0)) ∧ cs[3]? = some (nptr (pv c)) ∧ cs[4]? = some (nptr (nx c)) ∧
    Nodes X m L B (upd nx c v) pv li id wt LW LN (setBk r c (.cells (cs.setIfInBounds 4 (nptr v)) t (0, 0))) := by
  have hkp := fun o => h.keep hc o
  rcases hc with hb | ⟨k, hk, rfl⟩
  · have h1 := h.el c hb
    refine ⟨_, _, h1, rfl, rfl, fun j hj => ?_, fun b hb' => ?_, h.dL, hkp _⟩
    · have hne := h.sep hj hb
      rw [look_setBk_ne _ _ (Ne.symm hne), upd_ne _ _ (Ne.symm hne)]
      exact h.lst j hj
    · by_cases e : b = c
      · subst e
        rw [look_setBk_same _ h1, upd_same]
        rfl
      · rw [look_setBk_ne _ _ e, upd_ne _ _ e]
        exact h.el b hb'
  · have h1 := h.lst k hk
    refine ⟨_, _, h1, rfl, rfl, fun j hj => ?_, fun b hb' => ?_, h.dL, hkp _⟩
    · by_cases e : j = k
      · subst e
        rw [look_setBk_same _ h1, upd_same]
        rfl
      · have hne := h.dL j k hj hk e
        rw [look_setBk_ne _ _ hne, upd_ne _ _ hne]
        exact h.lst j hj
    · have hne := h.sep hk hb'
      rw [look_setBk_ne _ _ hne, upd_ne _ _ hne]
      exact h.el b hb'
theorem Nodes.setPv (h : Nodes X m L B nx pv li id wt LW LN r) {c : Nat} (hc : isNode m L B c) (v : Nat) : ∃ cs t, lookB r c = some (.cells cs t (0, 0)) ∧ cs[3]? = some (nptr (pv c)) ∧ cs[4]? = some (nptr (nx c)) ∧
    Nodes X m L B nx (upd pv c v) li id wt LW LN (setBk r c (.cells (cs.setIfInBounds 3 (nptr v)) t (0, 0))) := by
  have hkp := fun o => h.keep hc o
  rcases hc with hb | ⟨k, hk, rfl⟩
  · have h1 := h.el c hb
    refine ⟨_, _, h1, rfl, rfl, fun j hj => ?_, fun b hb' => ?_, h.dL, hkp _⟩
    · have hne := h.sep hj hb
      rw [look_setBk_ne _ _ (Ne.symm hne), upd_ne _ _ (Ne.symm hne)]
      exact h.lst j hj
    · by_cases e : b = c
      · subst e
        rw [look_setBk_same _ h1, upd_same]
        rfl
      · rw [look_setBk_ne _ _ e, upd_ne _ _ e]
        exact h.el b hb'
  · have h1 := h.lst k hk
    refine ⟨_, _, h1, rfl, rfl, fun j hj => ?_, fun b hb' => ?_, h.dL, hkp _⟩
    · by_cases e : j = k
      · subst e
        rw [look_setBk_same _ h1, upd_same]
        rfl
      · have hne := h.dL j k hj hk e
        rw [look_setBk_ne _ _ hne, upd_ne _ _ hne]
        exact h.lst j hj
    · have hne := h.sep hk hb'
      rw [look_setBk_ne _ _ hne, upd_ne _ _ hne]
      exact h.el b hb'
theorem Nodes.setLi (h : Nodes X m L B nx pv li id wt LW LN r) {c : Nat} (hb : B c) (v : Nat) :
    Nodes X m L B nx pv (upd li c v) id wt LW LN (setBk r c (elemO (id c) (wt c) v (pv c) (nx c))) := by
  have h1 := h.el c hb
  refine ⟨fun j hj => ?_, fun b hb' => ?_, h.dL, h.keep (Or.inl hb) _⟩
  · rw [look_setBk_ne _ _ (Ne.symm (h.sep hj hb))]
    exact h.lst j hj
  · by_cases e : b = c
    · subst e
      rw [look_setBk_same _ h1, upd_same]
    · rw [look_setBk_ne _ _ e, upd_ne _ _ e]
      exact h.el b hb'
theorem Nodes.setWt (h : Nodes X m L B nx pv li id wt LW LN r) {c : Nat} (hb : B c) (v : Int) :
    Nodes X m L B nx pv li id (updI wt c v) LW LN (setBk r c (elemO (id c) v (li c) (pv c) (nx c))) := by
  have h1 := h.el c hb
  refine ⟨fun j hj => ?_, fun b hb' => ?_, h.dL, h.keep (Or.inl hb) _⟩
  · rw [look_setBk_ne _ _ (Ne.symm (h.sep hj hb))]
    exact h.lst j hj
  · by_cases e : b = c
    · subst e
      rw [look_setBk_same _ h1, updI_same]
    · rw [look_setBk_ne _ _ e, updI_ne _ _ e]
      exact h.el b hb'
theorem Nodes.setL (h : Nodes X m L B nx pv li id wt LW LN r) {k : Nat} (hk : k < m) (x : Int) (n : Nat) :
    Nodes X m L B nx pv li id wt (updI LW k x) (upd LN k n) (setBk r (L k) (listO k x n (pv (L k)) (nx (L k)))) := by
  have h1 := h.lst k hk
  refine ⟨fun j hj => ?_, fun b hb' => ?_, h.dL, h.keep (Or.inr ⟨k, hk, rfl⟩) _⟩
  · by_cases e : j = k
    · subst e
      rw [look_setBk_same _ h1, updI_same, upd_same]
    · rw [look_setBk_ne _ _ (h.dL j k hj hk e), updI_ne _ _ e, upd_ne _ _ e]
      exact h.lst j hj
  · rw [look_setBk_ne _ _ (h.sep hk hb')]
    exact h.el b hb'
theorem Nodes.mono {B' : Nat → Prop} (h : Nodes X m L B nx pv li id wt LW LN r) (hB : ∀ b, B' b → B b) : Nodes X m L B' nx pv li id wt LW LN r :=
  ⟨h.lst, fun b hb => h.el b (hB b hb), h.dL, fun p hp => ⟨(h.oth p hp).1, fun hn => (h.oth p hp).2 (by
    rcases hn with hn | hn
    · exact Or.inl (hB _ hn)
    · exact Or.inr hn)⟩⟩
/-- a block becomes an element (again) -/
theorem Nodes.take {b l p : Nat} {i x : Int} {ob : Obj} (h : Nodes X m L B nx pv li id wt LW LN r) (hr : lookB r b = some ob) (hn : ∀ k, k < m → b ≠ L k) (hX : ∀ p ∈ X, p.1 ≠ b) :
    Nodes X m L (fun c => B c ∨ c = b) (upd nx b l) (upd pv b p) (upd li b l) (updI id b i) (updI wt b x) LW LN (setBk r b (elemO i x l p l)) := by
  refine ⟨fun k hk => ?_, fun c hc => ?_, h.dL, fun q hq => ⟨(look_setBk_ne _ _ (hX q hq)).trans (h.oth q hq).1, ?_⟩⟩
  · rw [look_setBk_ne _ _ (Ne.symm (hn k hk)), upd_ne _ _ (Ne.symm (hn k hk)), upd_ne _ _ (Ne.symm (hn k hk))]
    exact h.lst k hk
  · by_cases e : c = b
    · subst e
      rw [look_setBk_same _ hr, upd_same, upd_same, upd_same, updI_same, updI_same]
    · rw [look_setBk_ne _ _ e, upd_ne _ _ e, upd_ne _ _ e, upd_ne _ _ e, updI_ne _ _ e, updI_ne _ _ e]
      rcases hc with hc | hc
      · exact h.el c hc
      · exact absurd hc e
  · rintro ((hb | hb) | hl)
    · exact (h.oth q hq).2 (Or.inl hb)
    · exact hX q hq hb
    · exact (h.oth q hq).2 (Or.inr hl)
end
end Go.Proofs.Ytnhdjpeadhcajaa
