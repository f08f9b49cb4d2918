/- Layer 6: slices.All over an arena's slots: its contract. -/
import Derived.Test.YtepjebmiegkpnaaArena5
import Derived.Test.YtepjebmiegkpnaaRangeOwn2
import Derived.RangeFuncKeeps
import Derived.RangeFuncLeaves
import Derived.Shelf.Abstract
import Derived.Shelf.RegionOpen
import Derived.WalkKit
import Derived.OwnWalkIn
import Derived.TacticsInMore
import Derived.LoopNIn
import Derived.LoopIn
namespace Go.Proofs.Ytepjebmiegkpnaa
open Go.RowKit Go.Sep Go.Shelf
attribute [local go_sem] Oper.semAt_some
def lbox (b : Nat) (v : Value) (t : TypeId) : Nat × Obj := (b, .cells #[v] t (0, 0))
/-- slots with their numbers -/
def enumS : Nat → List Sl → List (Nat × Sl)
  | _, [] => []
  | i, s :: l => (i, s) :: enumS (i + 1) l
theorem enumS_split : ∀ (l : List Sl) (i k : Nat) (s : Sl), l[k]? = some s → enumS i l = enumS i (l.take k) ++ (i + k, s) :: enumS (i + k + 1) (l.drop (k + 1))
  | [], _, _, _, h => by simp at h
  | t :: l, i, 0, s, h => by
    simp at h
    subst h
    rfl
  | t :: l, i, k + 1, s, h => by
    have := enumS_split l (i + 1) k s (by simpa using h)
    rw [List.take_succ_cons, enumS, enumS, this, List.drop_succ_cons, show i + 1 + k = i + (k + 1) by omega]
    rfl
theorem enumS_snoc (l : List Sl) (k : Nat) (s : Sl) (h : l[k]? = some s) : ∀ i, enumS i (l.take (k + 1)) = enumS i (l.take k) ++ [(i + k, s)] := by
  intro i
  have hk := (List.getElem?_eq_some_iff.1 h).1
  have h2 : (l.take (k + 1))[k]? = some s := by rw [List.getElem?_take, if_pos (by omega)]; exact h
  rw [enumS_split (l.take (k + 1)) i k s h2, List.take_take, Nat.min_eq_left (by omega), List.drop_eq_nil_of_le (by rw [List.length_take]; omega)]
  rfl
def slotV (s : Sl) : Value := .agg #[.int .i64 s.k, .int .i64 s.w, .bool s.h, .int .i64 (s.nx : Int)]
def slotO (s : Sl) : Obj := .cells #[.int .i64 s.k, .int .i64 s.w, .bool s.h, .int .i64 (s.nx : Int)] 56 (0, 0)
def encS (x : Nat × Sl) : Array Value := #[.int .i64 (x.1 : Int), .agg #[.int .i64 x.2.k, .int .i64 x.2.w, .bool x.2.h, .int .i64 (x.2.nx : Int)]]
section
variable {sl : List Sl} {w0 w : World} {cur : Array Value} {n cap b bs : Nat} {T : Sep.Own}
set_option maxHeartbeats 1600000 in
set_option maxRecDepth 100000 in
theorem slices_iter (h4 : cur.toList.take (n * 4) = slCells sl) (hn : sl.length = n) (hcap : n ≤ cap) (hn2 : n ≤ 100000) :
    Iter Try.prog 28 #[.pointer (some ⟨bs, 0, none⟩)] encS w0 (lbox bs (.slice (some ⟨b, 0, none⟩) n cap) 52 :: (b, .cells cur 56 (0, 0)) :: T) (enumS 0 sl) := by
  intro l N Q Qx W q hY h0 hO
  have hc : ∀ W q, Owned w0 W (q ++ ((lbox bs (.slice (some ⟨b, 0, none⟩) n cap) 52 :: (b, .cells cur 56 (0, 0)) :: T) ++ N)) → W.cell? ⟨bs, 0, none⟩ = some (.slice (some ⟨b, 0, none⟩) n cap) ∧
      ∀ i, W.cell? ⟨b, i, none⟩ = cur[i]? := fun W q hO => by
    refine ⟨(Owned.cell (hO.perm List.perm_middle) 0).trans rfl, fun i => ?_⟩
    have h1 : Owned w0 W ((q ++ [lbox bs (.slice (some ⟨b, 0, none⟩) n cap) 52]) ++ ((b, .cells cur 56 (0, 0)) :: (T ++ N))) := by rw [List.append_assoc]; exact hO
    exact Owned.cell (h1.perm List.perm_middle) i
  have HC := Lib.hid hc
  refine callsIn_of_wp Try.func28 rfl trivial ?_ rfl
  simp only [Try.ntmps28, List.size_toArray, List.length_cons, List.length_nil, Nat.reduceAdd, Nat.reduceSub, Array.replicate_succ, Array.replicate_zero, List.push_toArray, List.append_toArray, List.nil_append, List.cons_append]
  obtain ⟨c0, -⟩ := hc W q hO
  have HO := Lib.hid (show ∃ q, Q (enumS 0 (sl.take 0)) q ∧ Owned w0 W (q ++ ((lbox bs (.slice (some ⟨b, 0, none⟩) n cap) 52 :: (b, .cells cur 56 (0, 0)) :: T) ++ N)) from ⟨q, h0, hO⟩)
  clear h0 hO hc
  have H4 := Lib.hid h4
  have HN := Lib.hid hn
  clear h4 hn
  gi_wp2
  clear c0
  gi_loopw [7] (fun x7 wr => ∃ k : Nat, k ≤ n ∧ x7 = .int .i64 (k : Int) ∧ Hid (∃ q, Q (enumS 0 (sl.take k)) q ∧ Owned w0 wr (q ++ ((lbox bs (.slice (some ⟨b, 0, none⟩) n cap) 52 :: (b, .cells cur 56 (0, 0)) :: T) ++ N)))) (fun x7 _ => n - (intOf x7).toNat)
  case atStart => exact ⟨0, Nat.zero_le _, rfl, HO⟩
  case round =>
    clear HO
    obtain ⟨k, hk, rfl, hrel⟩ := hrel
    obtain ⟨q, hQ, hO⟩ := hrel.out
    clear hrel
    by_cases hkn : k < n
    · obtain ⟨s, hs⟩ : ∃ s, sl[k]? = some s := ⟨_, List.getElem?_eq_getElem (by rw [HN.out]; exact hkn)⟩
      have hcell := (HC.out _ _ hO).2
      have g := fun (j : Nat) (hj : j < 4) => (hcell (k * 4 + j)).trans (cur_get H4.out HN.out.symm hs hj)
      have c0 : wr.cell? ⟨b, k * 4, none⟩ = some (.int .i64 s.k) := g 0 (by omega)
      have c1 : wr.cell? ⟨b, k * 4 + 1, none⟩ = some (.int .i64 s.w) := g 1 (by omega)
      have c2 : wr.cell? ⟨b, k * 4 + 2, none⟩ = some (.bool s.h) := g 2 (by omega)
      have c3 : wr.cell? ⟨b, k * 4 + 3, none⟩ = some (.int .i64 (s.nx : Int)) := g 3 (by omega)
      have hsp := enumS_split sl 0 k s hs
      rw [Nat.zero_add] at hsp
      have hOa := hO.alloc (slotO s)
      obtain ⟨fn, tmps, assign, body, hy, hR⟩ := hY _ _ _ hsp [(wr.heap.size, slotO s)] _ q hQ hOa
      have HSN := Lib.hid (enumS_snoc sl k s hs 0)
      have HSP := Lib.hid hsp
      unfold slotO encS at hy
      dsimp only at hy
      clear hcell g hs hsp hOa hO hQ hY
      obtain ⟨sk, sw, sh, snx⟩ := s
      dsimp only at c0 c1 c2 c3 hy
      gi_wp2
      refine (roundIn_any rfl hR).mono ?_
      clear hR hy c0 c1 c2 c3
      rintro e W3 (⟨rfl, q3, hQ3, hO3⟩ | ⟨rfl, q3, hQ3, hO3⟩)
      · have HN3 := Lib.hid (show ∃ q, Q (enumS 0 (sl.take (k + 1))) q ∧ Owned w0 W3 (q ++ ((lbox bs (.slice (some ⟨b, 0, none⟩) n cap) 52 :: (b, .cells cur 56 (0, 0)) :: T) ++ N)) from ⟨q3, by rw [HSN.out, Nat.zero_add]; exact hQ3, hO3.tail⟩)
        clear hQ3 hO3
        gi_wp2
        go_roundw
        case rel => exact ⟨k + 1, by omega, by go_num, HN3⟩
        case measure => simp [intOf]; omega
      · have HN3 := Lib.hid (And.intro hQ3 hO3.tail)
        clear hQ3 hO3
        gi_wp2
        refine bodyPost_ret (results_none rfl _ _ _) rfl ?_
        exact ⟨⟨_, rfl⟩, .inr ⟨_, q3, ⟨_, by rw [HSP.out, List.append_assoc]; rfl⟩, HN3.out.1, HN3.out.2⟩⟩
    · obtain rfl : k = n := by omega
      rw [List.take_of_length_le (by rw [HN.out]; omega)] at hQ
      have HN3 := Lib.hid (And.intro hQ hO)
      clear hQ hO hkn HC H4
      gi_wp2
      go_end0
      exact ⟨⟨_, rfl⟩, .inl ⟨q, HN3.out.1, HN3.out.2⟩⟩
end
end Go.Proofs.Ytepjebmiegkpnaa
