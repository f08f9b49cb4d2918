/- Merged texts: Layer 7: the iterator over a row's elements. -/
import Derived.Test.YtnhdjpeadhcajaaK28
import Derived.Test.YtnhdjpeadhcajaaK29
import Derived.RangeFuncKeeps
import Derived.RangeFuncLeaves
import Derived.Shelf.Abstract
import Derived.Shelf.RegionOpen
import Derived.WalkKit
import Derived.OwnWalkIn
import Derived.TacticsInMore
import Derived.LoopNIn
import Derived.LoopIn
import Derived.LaidEql
namespace Go.Proofs.Ytnhdjpeadhcajaa
open Go.RowKit Go.Sep DqPure Go.Shelf
set_option maxRecDepth 100000
attribute [local go_sem] Oper.semAt_some
/-- how many are left of l from b on -/
def leftN : List Nat → Nat → Nat
  | [], _ => 0
  | c :: l, b => if c = b then l.length + 1 else leftN l b
theorem leftN_at : ∀ (pre : List Nat) (b : Nat) (post : List Nat), b ∉ pre → leftN (pre ++ b :: post) b = post.length + 1
  | [], b, post, _ => by simp [leftN]
  | c :: pre, b, post, h => by
    have h1 : ¬ c = b := fun e => h (by simp [e])
    rw [List.cons_append, leftN, if_neg h1, leftN_at pre b post (fun hm => h (List.mem_cons_of_mem _ hm))]
theorem leftN_none : ∀ (l : List Nat) (b : Nat), b ∉ l → leftN l b = 0
  | [], _, _ => rfl
  | c :: l, b, h => by
    have h1 : ¬ c = b := fun e => h (by simp [e])
    rw [leftN, if_neg h1, leftN_none l b (fun hm => h (List.mem_cons_of_mem _ hm))]
def blockOf : Value → Nat
  | .pointer (some a) => a.block
  | _ => 0
section
variable {bx m n bm : Nat} {v : Value} {q r F : Sep.Own} {L : Nat → Nat} {S : Nat → List Nat} {nx pv li : Nat → Nat} {id wt LW : Nat → Int} {LN : Nat → Nat} {f : Int → Nat} {o : Obj} {w0 w : World}
theorem neq_ptr_same (a : Nat) (w : World) : (binOp .neq 86 (.pointer (some ⟨a, 0, none⟩)) (.pointer (some ⟨a, 0, none⟩))).run Try.prog w = .ok (.bool false) w := by
  have hz := Try.sizeOf88
  simp only [binOp, Op.equal]
  rw [show Op.maxDepth = 9999 + 1 from rfl, Op.equalIn]
  simp only [Sem.run_bind, run_underlying Try.underlying86, Result.andThen_ok]
  go_simp
  rw [run_sameAddr_same]
  rfl
theorem neq_ptr_other {a b : Nat} {w : World} {ca cb : Array Value} {ta tb : TypeId} (hne : a ≠ b) (ha : w.heap[a]? = some (.cells ca ta (0, 0))) (hb : w.heap[b]? = some (.cells cb tb (0, 0))) : (binOp .neq 86 (.pointer (some ⟨a, 0, none⟩)) (.pointer (some ⟨b, 0, none⟩))).run Try.prog w = .ok (.bool true) w := by
  have hz := Try.sizeOf88
  simp only [binOp, Op.equal]
  rw [show Op.maxDepth = 9999 + 1 from rfl, Op.equalIn]
  simp only [Sem.run_bind, run_underlying Try.underlying86, Result.andThen_ok]
  go_simp
  rw [run_sameAddr_other w (a := ⟨a, 0, none⟩) (b := ⟨b, 0, none⟩) (fun e => hne (by injection e)) ha hb]
  rfl
def lbox (b : Nat) (v : Value) (t : TypeId) : Nat × Obj := (b, .cells #[v] t (0, 0))
set_option maxHeartbeats 1600000 in
set_option maxRecDepth 100000 in
theorem el_iter {k bl : Nat} (h : DqIn bx m n v bm q L S nx pv li id wt LW LN f o r) (hk : k < m) :
    Iter Try.prog 77 #[.pointer (some ⟨bl, 0, none⟩)] (fun b : Nat => #[.pointer (some ⟨b, 0, none⟩)]) w0 (lbox bl (nptr (L k)) 85 :: r) (S k) := by
  intro l N Q Qx W q hY h0 hO
  have hcell : ∀ W q, Owned w0 W (q ++ ((lbox bl (nptr (L k)) 85 :: r) ++ N)) → W.cell? ⟨bl, 0, none⟩ = some (.pointer (some ⟨L k, 0, none⟩)) ∧ Owned w0 W (r ++ (q ++ (lbox bl (nptr (L k)) 85 :: N))) := fun W q hO => by
    have h1 : Owned w0 W (lbox bl (nptr (L k)) 85 :: (q ++ (r ++ N))) := hO.perm List.perm_middle
    refine ⟨(Owned.cell h1 0).trans rfl, h1.perm ?_⟩
    exact ((List.Perm.cons _ (perm2 q r N)).trans List.perm_middle.symm).trans (List.Perm.append_left r List.perm_middle.symm)
  have HC := Lib.hid hcell
  have hseg := h.l.seg k hk
  have hnd := h.l.ndl hk
  have hfirst := hseg.first
  refine callsIn_of_wp Try.func77 rfl trivial ?_ rfl
  simp only [Try.ntmps77, List.size_toArray, List.length_cons, List.length_nil, Nat.reduceAdd, Nat.reduceSub, Array.replicate_succ, Array.replicate_zero, List.push_toArray, List.append_toArray, List.nil_append, List.cons_append]
  obtain ⟨c0, c1⟩ := hcell W q hO
  obtain ⟨-, -, l4, -⟩ := h.l.nodes.lsc c1 hk
  rw [hfirst] at l4
  clear c1
  have HO := Lib.hid (show ∃ q, Q [] q ∧ Owned w0 W (q ++ ((lbox bl (nptr (L k)) 85 :: r) ++ N)) from ⟨q, h0, hO⟩)
  clear h0 hO hcell
  gi_wp2
  clear c0 l4
  gi_loopw [3] (fun x3 wr => ∃ (pre rest : List Nat), S k = pre ++ rest ∧ x3 = .pointer (some ⟨fst rest (L k), 0, none⟩) ∧ Hid (∃ q, Q pre q ∧ Owned w0 wr (q ++ ((lbox bl (nptr (L k)) 85 :: r) ++ N)))) (fun x3 _ => leftN (S k) (blockOf x3))
  case atStart => exact ⟨[], S k, rfl, rfl, HO⟩
  case round =>
    clear HO
    obtain ⟨pre, rest, hs, rfl, hrel⟩ := hrel
    obtain ⟨q, hQ, hO⟩ := hrel.out
    clear hrel
    obtain ⟨c0, c1⟩ := HC.out wr q hO
    cases rest with
    | nil =>
      have e0 : fst [] (L k) = L k := rfl
      rw [e0]
      have hcmp := neq_ptr_same (L k) wr
      gi_wp2
      refine ⟨fun _ h => (by cases h), ?_⟩
      gi_wp2
      go_end0
      refine ⟨⟨_, rfl⟩, .inl ⟨q, ?_, hO⟩⟩
      rw [hs, List.append_nil]
      exact hQ
    | cons b rest =>
      have e0 : fst (b :: rest) (L k) = b := rfl
      rw [e0]
      have hbS : b ∈ S k := by rw [hs]; simp
      have hne : b ≠ L k := h.l.ne hk hk hbS
      have hnp : b ∉ pre := by
        have h2 := h.l.nd k hk
        rw [hs] at h2
        exact fun hm => (List.nodup_append.1 h2).2.2 b hm b (by simp) rfl
      obtain ⟨fn, tmps, assign, body, hy, hR⟩ := hY pre b rest hs [] wr q hQ hO
      have HS := Lib.hid hs
      clear hs
      have hcmp := neq_ptr_other hne (c1.look_at (h.l.nodes.el b ⟨k, hk, hbS⟩)).2 (c1.look_at (h.l.nodes.lst k hk)).2
      gi_wp2
      refine (roundIn_any rfl hR).mono ?_
      clear hR hy hcmp
      rintro e W3 (⟨rfl, q3, hQ3, hO3⟩ | ⟨rfl, q3, hQ3, hO3⟩)
      · obtain ⟨d0, d1⟩ := HC.out W3 q3 hO3
        obtain ⟨-, -, -, -, d4, -⟩ := h.l.nodes.elc d1 ⟨k, hk, hbS⟩
        have hs2 := hseg
        rw [HS.out] at hs2
        have hnx : nx b = fst rest (L k) := (Seg.append.1 hs2).2.first
        rw [hnx] at d4
        have HN := Lib.hid (show ∃ q, Q (pre ++ [b]) q ∧ Owned w0 W3 (q ++ ((lbox bl (nptr (L k)) 85 :: r) ++ N)) from ⟨q3, hQ3, hO3⟩)
        clear hQ3 hO3 d1 hs2
        gi_wp2
        go_roundw
        case rel => exact ⟨pre ++ [b], rest, by rw [HS.out, List.append_assoc]; rfl, rfl, HN⟩
        case measure =>
          show leftN (S k) (fst rest (L k)) < leftN (S k) b
          have e1 : leftN (S k) b = rest.length + 1 := by rw [HS.out]; exact leftN_at pre b rest hnp
          rw [e1]
          cases rest with
          | nil =>
            have e2 : leftN (S k) (L k) = 0 := leftN_none _ _ (fun hm => h.l.ne hk hk hm rfl)
            show leftN (S k) (L k) < 0 + 1
            omega
          | cons c rest =>
            have e2 : leftN (S k) c = rest.length + 1 := by
              have h3 : S k = (pre ++ [b]) ++ c :: rest := by rw [HS.out, List.append_assoc]; rfl
              have h2 := h.l.nd k hk
              rw [h3] at h2
              rw [h3]
              exact leftN_at _ _ _ (fun hm => (List.nodup_append.1 h2).2.2 c hm c (by simp) rfl)
            show leftN (S k) c < (c :: rest).length + 1
            rw [e2, List.length_cons]
            omega
      · gi_wp2
        go_end0
        exact ⟨⟨_, rfl⟩, .inr ⟨pre ++ [b], q3, ⟨rest, by rw [HS.out, List.append_assoc]; rfl⟩, hQ3, hO3⟩⟩
end
end Go.Proofs.Ytnhdjpeadhcajaa
