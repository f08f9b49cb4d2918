/- Contracts of the ring's functions over own memory. -/
import Derived.Test.YtjhoipbffadcjaaProg
import Derived.Test.YtjhoipbffadcjaaInts
import Derived.WalkKit
import Derived.Deep.QuietTactic
import Derived.BigQuiet
import Derived.Laws.BitsAllLaws
import Derived.Deep.RegionWith
import Derived.Deep.RegionLaw
import Derived.Lib.Hide
namespace Go.Proofs.Ytjhoipbffadcjaa
open Go.RowKit Go.Sep

/-- the ring's own block and its cells' block -/
def ringB (g c n : Nat) (at_ len lost : Nat) (cells : List Int) : Own :=
  [(g, .cells #[.slice (some ⟨c, 0, none⟩) n n, .int .i64 at_, .int .i64 len, .int .i64 lost] 63 (0, 0)), (c, .cells (ints cells).toArray 3 (0, 0))]
/-- what stands in a ring: its size is a power of two, 4096 at most -/
structure RingOk (n at_ len lost : Nat) (cells : List Int) : Prop where
  pow : ∃ j, n = 2 ^ j
  n1 : 1 ≤ n
  n2 : n ≤ 4096
  cl : cells.length = n
  at1 : at_ < n
  len1 : len ≤ n
  lost1 : lost ≤ 1000000

theorem and_mask (x n : Nat) (hn : ∃ j, n = 2 ^ j) (h2 : n ≤ 4096) (hx : x ≤ 1000000) : bits .and .i64 (x : Int) ((n : Int) - 1) = ((x % n : Nat) : Int) := by
  obtain ⟨j, rfl⟩ := hn
  have hp : 0 < 2 ^ j := Nat.pow_pos (by omega)
  have e : ((2 ^ j : Nat) : Int) - 1 = ((2 ^ j - 1 : Nat) : Int) := by omega
  rw [e]
  show IntKind.i64.wrap ((BitVec.ofInt 64 (x : Int) &&& BitVec.ofInt 64 ((2 ^ j - 1 : Nat) : Int)).toNat : Int) = _
  rw [BitVec.toNat_and, BitVec.ofInt_natCast, BitVec.ofInt_natCast, BitVec.toNat_ofNat, BitVec.toNat_ofNat, Nat.mod_eq_of_lt (a := x) (by omega), Nat.mod_eq_of_lt (a := 2 ^ j - 1) (by omega), Nat.and_two_pow_sub_one_eq_mod]
  have : x % 2 ^ j < 2 ^ j := Nat.mod_lt _ hp
  rw [IntKind.wrap_i64]
  omega

section
variable {g c n at_ len lost : Nat} {cells : List Int} {w0 w : World} {F : Own}
set_option maxHeartbeats 400000 in
theorem len_calls (h : Owned w0 w (ringB g c n at_ len lost cells ++ F)) :
    Calls Try.prog 61 #[.pointer (some ⟨g, 0, none⟩)] w fun e w' => e = .returned (.int .i64 len) ∧ w = w' := by
  have c2 : w.cell? ⟨g, 2, none⟩ = some (.int .i64 len) := (Owned.cell h 2).trans rfl
  clear h
  go_enter Try.func61, Try.ntmps61
  go_wp2
  go_ret
  exact ⟨rfl, rfl⟩
set_option maxHeartbeats 400000 in
theorem lost_calls (h : Owned w0 w (ringB g c n at_ len lost cells ++ F)) :
    Calls Try.prog 62 #[.pointer (some ⟨g, 0, none⟩)] w fun e w' => e = .returned (.int .i64 lost) ∧ w = w' := by
  have c2 : w.cell? ⟨g, 3, none⟩ = some (.int .i64 lost) := (Owned.cell h 3).trans rfl
  clear h
  go_enter Try.func62, Try.ntmps62
  go_wp2
  go_ret
  exact ⟨rfl, rfl⟩
set_option maxHeartbeats 400000 in
theorem place_calls (k : Nat) (ho : RingOk n at_ len lost cells) (hk : k ≤ 4096) (h : Owned w0 w (ringB g c n at_ len lost cells ++ F)) :
    Calls Try.prog 65 #[.pointer (some ⟨g, 0, none⟩), .int .i64 (k : Int)] w fun e w' => e = .returned (.int .i64 (((at_ + k) % n : Nat) : Int)) ∧ ∃ m, w' = w.drewN m := by
  have c0 : w.cell? ⟨g, 0, none⟩ = some (.slice (some ⟨c, 0, none⟩) n n) := (Owned.cell h 0).trans rfl
  have c1 : w.cell? ⟨g, 1, none⟩ = some (.int .i64 at_) := (Owned.cell h 1).trans rfl
  have n2 := ho.n2
  have a1 := ho.at1
  have hm := and_mask (at_ + k) n ho.pow n2 (by omega)
  clear h ho
  have Hm := Lib.hid hm
  clear hm
  go_enter Try.func65, Try.ntmps65
  go_wp2
  go_quiet (fail)
  go_wp2
  go_ret
  refine ⟨?_, _, rfl⟩
  rw [← Hm.out]
  rfl

theorem ring_cell (h : Owned w0 w (ringB g c n at_ len lost cells ++ F)) (q : Nat) (v : Int) : Owned w0 (w.setCell ⟨c, q, none⟩ (.int .i64 v)) (ringB g c n at_ len lost (cells.set q v) ++ F) := by
  have k := Owned.swap (Owned.set (Owned.swap h) q (.int .i64 v))
  have e : (ints cells).toArray.setIfInBounds q (.int .i64 v) = (ints (cells.set q v)).toArray := by simp [ints, List.map_set]
  rw [e] at k
  exact k
theorem ring_len (h : Owned w0 w (ringB g c n at_ len lost cells ++ F)) (l : Nat) : Owned w0 (w.setCell ⟨g, 2, none⟩ (.int .i64 (l : Int))) (ringB g c n at_ l lost cells ++ F) := Owned.set h 2 _
theorem ring_at (h : Owned w0 w (ringB g c n at_ len lost cells ++ F)) (l : Nat) : Owned w0 (w.setCell ⟨g, 1, none⟩ (.int .i64 (l : Int))) (ringB g c n l len lost cells ++ F) := Owned.set h 1 _

set_option maxHeartbeats 400000 in
theorem offer_full (v : Int) (ho : RingOk n at_ len lost cells) (hl : len = n) (h : Owned w0 w (ringB g c n at_ len lost cells ++ F)) :
    Calls Try.prog 63 #[.pointer (some ⟨g, 0, none⟩), .int .i64 v] w fun e w' => e = .returned (.bool false) ∧ Owned w0 w' (ringB g c n at_ len (lost + 1) cells ++ F) := by
  have c0 : w.cell? ⟨g, 0, none⟩ = some (.slice (some ⟨c, 0, none⟩) n n) := (Owned.cell h 0).trans rfl
  have c2 : w.cell? ⟨g, 2, none⟩ = some (.int .i64 n) := by have := (Owned.cell h 2).trans rfl; rw [hl] at this; exact this
  have c3 : w.cell? ⟨g, 3, none⟩ = some (.int .i64 lost) := (Owned.cell h 3).trans rfl
  have f3 : w.frozen? ⟨g, 3, none⟩ = false := Owned.frozen h 3
  have l1 := ho.lost1
  subst hl
  clear ho
  go_enter Try.func63, Try.ntmps63
  go_wp2
  go_quiet (fail)
  go_wp2
  go_ret
  exact ⟨rfl, Owned.set (h.drewN _) 3 _⟩

set_option maxHeartbeats 400000 in
theorem offer_room (v : Int) (ho : RingOk n at_ len lost cells) (hl : len < n) (h : Owned w0 w (ringB g c n at_ len lost cells ++ F)) :
    Calls Try.prog 63 #[.pointer (some ⟨g, 0, none⟩), .int .i64 v] w fun e w' => e = .returned (.bool true) ∧ Owned w0 w' (ringB g c n at_ (len + 1) lost (cells.set ((at_ + len) % n) v) ++ F) := by
  have c0 : w.cell? ⟨g, 0, none⟩ = some (.slice (some ⟨c, 0, none⟩) n n) := (Owned.cell h 0).trans rfl
  have c2 : w.cell? ⟨g, 2, none⟩ = some (.int .i64 len) := (Owned.cell h 2).trans rfl
  have f2 : w.frozen? ⟨g, 2, none⟩ = false := Owned.frozen h 2
  have n2 := ho.n2
  have n1 := ho.n1
  have hq : (at_ + len) % n < n := Nat.mod_lt _ (by omega)
  have hcs : w.cell? ⟨c, (at_ + len) % n, none⟩ = some (.int .i64 (cells.getD ((at_ + len) % n) 0)) := (Owned.cell (Owned.swap h) _).trans (ints_get _ _ (by rw [ho.cl]; exact hq))
  have hfs : w.frozen? ⟨c, (at_ + len) % n, none⟩ = false := Owned.frozen (Owned.swap h) _
  have hne : ((len : Int) == n) = false := by simp; omega
  have hgc := Owned.ne h
  have hcall : ∀ m, Calls Try.prog 65 #[.pointer (some ⟨g, 0, none⟩), .int .i64 (len : Int)] (w.drewN m) fun e w' => e = .returned (.int .i64 (((at_ + len) % n : Nat) : Int)) ∧ ∃ m', w' = (w.drewN m).drewN m' := fun m => place_calls len ho (by omega) (h.drewN m)
  generalize (at_ + len) % n = q at *
  clear ho
  go_enter Try.func63, Try.ntmps63
  go_wp2
  go_quiet (fail)
  go_wp2
  go_region_with ((go_at_call 65; refine (hcall _).mono ?_; rintro e w' ⟨rfl, m, rfl⟩))
  all_goals
    go_wp2
    go_ret
    exact ⟨rfl, ring_len (ring_cell (h.drewN _) _ _) _⟩

set_option maxHeartbeats 400000 in
theorem take_none (_ho : RingOk n at_ len lost cells) (hl : len = 0) (h : Owned w0 w (ringB g c n at_ len lost cells ++ F)) :
    Calls Try.prog 64 #[.pointer (some ⟨g, 0, none⟩)] w fun e w' => e = .returned (.tuple #[.int .i64 0, .bool false]) ∧ Owned w0 w' (ringB g c n at_ len lost cells ++ F) := by
  have c2 : w.cell? ⟨g, 2, none⟩ = some (.int .i64 0) := by have := (Owned.cell h 2).trans rfl; rw [hl] at this; exact this
  clear _ho
  go_enter Try.func64, Try.ntmps64
  go_wp2
  go_ret2
  exact ⟨rfl, h⟩

set_option maxHeartbeats 400000 in
theorem take_some (ho : RingOk n at_ len lost cells) (hl : 0 < len) (h : Owned w0 w (ringB g c n at_ len lost cells ++ F)) :
    Calls Try.prog 64 #[.pointer (some ⟨g, 0, none⟩)] w fun e w' => e = .returned (.tuple #[.int .i64 (cells.getD at_ 0), .bool true]) ∧ Owned w0 w' (ringB g c n ((at_ + 1) % n) (len - 1) lost cells ++ F) := by
  have c0 : w.cell? ⟨g, 0, none⟩ = some (.slice (some ⟨c, 0, none⟩) n n) := (Owned.cell h 0).trans rfl
  have c1 : w.cell? ⟨g, 1, none⟩ = some (.int .i64 at_) := (Owned.cell h 1).trans rfl
  have c2 : w.cell? ⟨g, 2, none⟩ = some (.int .i64 len) := (Owned.cell h 2).trans rfl
  have f1 : w.frozen? ⟨g, 1, none⟩ = false := Owned.frozen h 1
  have f2 : w.frozen? ⟨g, 2, none⟩ = false := Owned.frozen h 2
  have n2 := ho.n2
  have n1 := ho.n1
  have a1 := ho.at1
  have l1 := ho.len1
  have hcs : w.cell? ⟨c, at_, none⟩ = some (.int .i64 (cells.getD at_ 0)) := (Owned.cell (Owned.swap h) _).trans (ints_get _ _ (by rw [ho.cl]; exact a1))
  have hne : ((len : Int) == 0) = false := by simp; omega
  have hcall : ∀ m, Calls Try.prog 65 #[.pointer (some ⟨g, 0, none⟩), .int .i64 1] (w.drewN m) fun e w' => e = .returned (.int .i64 (((at_ + 1) % n : Nat) : Int)) ∧ ∃ m', w' = (w.drewN m).drewN m' := fun m => place_calls 1 ho (by omega) (h.drewN m)
  generalize (at_ + 1) % n = q at *
  clear ho
  go_enter Try.func64, Try.ntmps64
  go_wp2
  go_quiet (fail)
  go_wp2_with (go_at_call 65; refine (hcall _).mono ?_; rintro e w' ⟨rfl, m, rfl⟩)
  go_ret2
  refine ⟨rfl, ?_⟩
  have e : (len : Int) - 1 = ((len - 1 : Nat) : Int) := by omega
  rw [e]
  exact ring_len (ring_at (h.drewN _) _) _
end
end Go.Proofs.Ytjhoipbffadcjaa
