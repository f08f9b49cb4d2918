/- Contracts of the arena's functions over own memory. -/
import Derived.Test.YtepjebmiegkpnaaProg
import Derived.Test.YtepjebmiegkpnaaSep
import Derived.WalkKit
import Derived.Lib.Hide
import Derived.Deep.QuietTactic
import Derived.BigQuiet
import Derived.Deep.RegionHeld3
namespace Go.Proofs.Ytepjebmiegkpnaa
open Go.RowKit Go.Sep

/-- a slot: key and weight of its node, is it held, which was dropped ahead of it -/
structure Sl where
  k : Int
  w : Int
  h : Bool
  nx : Nat
def Sl.cells (s : Sl) : List Value := [.int .i64 s.k, .int .i64 s.w, .bool s.h, .int .i64 s.nx]
def slCells : List Sl → List Value
  | [] => []
  | s :: l => s.cells ++ slCells l
theorem slCells_len : ∀ l : List Sl, (slCells l).length = l.length * 4
  | [] => rfl
  | s :: l => by simp only [slCells, List.length_append, slCells_len l, List.length_cons, Sl.cells, List.length_nil]; omega
theorem slCells_get : ∀ (l : List Sl) (i j : Nat) (s : Sl), l[i]? = some s → j < 4 → (slCells l)[i * 4 + j]? = s.cells[j]?
  | [], i, j, s, h, _ => by simp at h
  | t :: l, 0, j, s, h, hj => by
    simp at h
    subst h
    rw [Nat.zero_mul, Nat.zero_add, slCells, List.getElem?_append_left (by simp only [Sl.cells, List.length_cons, List.length_nil]; omega)]
  | t :: l, i + 1, j, s, h, hj => by
    have ih := slCells_get l i j s (by simpa using h) hj
    rw [slCells, List.getElem?_append_right (by simp only [Sl.cells, List.length_cons, List.length_nil]; omega), ← ih]
    congr 1
    simp only [Sl.cells, List.length_cons, List.length_nil]; omega
theorem slCells_append (l m : List Sl) : slCells (l ++ m) = slCells l ++ slCells m := by
  induction l with
  | nil => rfl
  | cons s l ih => simp [slCells, ih]

/-- an arena's own block, and its slots' -/
def ArenaC (g most : Nat) (sl : List Sl) (gone held : Nat) (r : Own) : Prop :=
  ∃ b cap cur, r = [(g, .cells #[.int .i64 most, .slice (some ⟨b, 0, none⟩) sl.length cap, .int .i64 gone, .int .i64 held] 54 (0, 0)), (b, .cells cur 56 (0, 0))] ∧
    sl.length ≤ cap ∧ cap ≤ maxLen ∧ cur.size = cap * 4 ∧ cur.toList.take (sl.length * 4) = slCells sl ∧ 1 ≤ sl.length ∧ sl.length ≤ 100000

section
variable {g most gone held : Nat} {sl : List Sl} {w0 w : World} {F : Own}
theorem cur_get {cur : Array Value} {n : Nat} (h : cur.toList.take (n * 4) = slCells sl) (hn : n = sl.length) {i j : Nat} {s : Sl} (hs : sl[i]? = some s) (hj : j < 4) : cur[i * 4 + j]? = s.cells[j]? := by
  have hi : i < sl.length := (List.getElem?_eq_some_iff.1 hs).1
  rw [← slCells_get sl i j s hs hj, ← h, List.getElem?_take, if_pos (by omega)]
  simp
/-- where the slot of a number lies -/
def FindPost (w : World) (sl : List Sl) (b : Nat) (id : Int) (e : Ending) (w' : World) : Prop :=
  (∃ m, w' = w.drewN m) ∧ e = .returned (.pointer (if 1 ≤ id ∧ id < sl.length ∧ (sl[id.toNat]?.map Sl.h) = some true then some ⟨b, id.toNat * 4, none⟩ else none))
set_option maxHeartbeats 800000 in
theorem find_calls (id : Int) (b cap : Nat) (cur : Array Value) (_h1 : sl.length ≤ cap) (h4 : cur.toList.take (sl.length * 4) = slCells sl) (_h5 : sl.length ≤ 100000)
    (h : Owned w0 w ((g, .cells #[.int .i64 most, .slice (some ⟨b, 0, none⟩) sl.length cap, .int .i64 gone, .int .i64 held] 54 (0, 0)) :: (b, .cells cur 56 (0, 0)) :: F)) :
    Calls Try.prog 23 #[.pointer (some ⟨g, 0, none⟩), .int .i64 id] w (FindPost w sl b id) := by
  have c1 : w.cell? ⟨g, 1, none⟩ = some (.slice (some ⟨b, 0, none⟩) sl.length cap) := (Owned.cell h 1).trans rfl
  by_cases hlo : id < 1
  · have hno : ¬ (1 ≤ id ∧ id < sl.length ∧ (sl[id.toNat]?.map Sl.h) = some true) := fun hh => by omega
    have HN := Lib.hid hno
    clear hno
    go_enter Try.func23, Try.ntmps23
    go_wp2
    go_ret
    exact ⟨⟨0, rfl⟩, by rw [if_neg HN.out]; rfl⟩
  · by_cases hhi : id < sl.length
    · obtain ⟨i, rfl⟩ : ∃ i : Nat, id = i := ⟨id.toNat, by omega⟩
      have hi : i < sl.length := by omega
      obtain ⟨s, hs⟩ : ∃ s, sl[i]? = some s := ⟨_, List.getElem?_eq_getElem hi⟩
      have ch : w.cell? ⟨b, i * 4 + 2, none⟩ = some (.bool s.h) := (Owned.cell (Owned.swap h) _).trans (cur_get (j := 2) h4 rfl hs (by omega))
      have hmap : (sl[(i : Int).toNat]?.map Sl.h) = some s.h := by simp [hs]
      have HM := Lib.hid hmap
      have HI := Lib.hid hi
      have hge : decide ((sl.length : Int) ≤ (i : Int)) = false := decide_eq_false (by omega)
      generalize hl : sl.length = n at *
      have HL := Lib.hid hl
      clear hmap hl hs
      cases hh : s.h with
      | true =>
        rw [hh] at ch
        have HH := Lib.hid hh
        clear hh
        go_enter Try.func23, Try.ntmps23
        go_wp2
        go_ret
        exact ⟨⟨0, rfl⟩, by rw [if_pos ⟨by omega, by rw [HL.out]; omega, by rw [HM.out, HH.out]⟩]; rfl⟩
      | false =>
        rw [hh] at ch
        have HH := Lib.hid hh
        clear hh
        go_enter Try.func23, Try.ntmps23
        go_wp2
        go_ret
        exact ⟨⟨0, rfl⟩, by rw [if_neg (fun hh => by rw [HM.out, HH.out] at hh; exact absurd hh.2.2 (by simp))]; rfl⟩
    · have hge : decide ((sl.length : Int) ≤ id) = true := decide_eq_true (by omega)
      have hno : ¬ (1 ≤ id ∧ id < sl.length ∧ (sl[id.toNat]?.map Sl.h) = some true) := fun hh => by omega
      have HN := Lib.hid hno
      clear hno
      go_enter Try.func23, Try.ntmps23
      go_wp2
      go_ret
      exact ⟨⟨0, rfl⟩, by rw [if_neg HN.out]; rfl⟩
/-- a slot's four cells, written -/
def put4 (cur : Array Value) (i : Nat) (s : Sl) : Array Value :=
  (((cur.setIfInBounds (i * 4) (.int .i64 s.k)).setIfInBounds (i * 4 + 1) (.int .i64 s.w)).setIfInBounds (i * 4 + 2) (.bool s.h)).setIfInBounds (i * 4 + 3) (.int .i64 s.nx)
theorem set4 : ∀ (l : List Sl) (i : Nat) (s : Sl), i < l.length →
    ((((slCells l).set (i * 4) (.int .i64 s.k)).set (i * 4 + 1) (.int .i64 s.w)).set (i * 4 + 2) (.bool s.h)).set (i * 4 + 3) (.int .i64 s.nx) = slCells (l.set i s)
  | [], i, s, h => by simp at h
  | t :: l, 0, s, _ => by simp [slCells, Sl.cells]
  | t :: l, i + 1, s, h => by
    have ih := set4 l i s (by simpa using h)
    have e : ∀ (L : List Value) (j : Nat) (v : Value), (t.cells ++ L).set ((i + 1) * 4 + j) v = t.cells ++ L.set (i * 4 + j) v := by
      intro L j v
      rw [List.set_append_right _ _ (by simp only [Sl.cells, List.length_cons, List.length_nil]; omega)]
      congr 2
      simp only [Sl.cells, List.length_cons, List.length_nil]; omega
    have e0 := e (slCells l) 0 (.int .i64 s.k)
    simp only [Nat.add_zero] at e0
    rw [slCells, e0, e, e, e, ih, List.set_cons_succ, slCells]
theorem put4_size (cur : Array Value) (i : Nat) (s : Sl) : (put4 cur i s).size = cur.size := by simp [put4]
theorem put4_take {cur : Array Value} {i : Nat} {s : Sl} (h4 : cur.toList.take (sl.length * 4) = slCells sl) (hi : i < sl.length) :
    (put4 cur i s).toList.take ((sl.set i s).length * 4) = slCells (sl.set i s) := by
  rw [← set4 sl i s hi, ← h4, List.length_set]
  simp only [put4, Array.toList_setIfInBounds, List.take_set]
theorem own4 {b : Nat} {cur : Array Value} {o : Obj} (h : Owned w0 w ((g, o) :: (b, .cells cur 56 (0, 0)) :: F)) (i : Nat) (s : Sl) :
    Owned w0 ((((w.setCell ⟨b, i * 4, none⟩ (.int .i64 s.k)).setCell ⟨b, i * 4 + 1, none⟩ (.int .i64 s.w)).setCell ⟨b, i * 4 + 2, none⟩ (.bool s.h)).setCell ⟨b, i * 4 + 3, none⟩ (.int .i64 s.nx)) ((g, o) :: (b, .cells (put4 cur i s) 56 (0, 0)) :: F) :=
  Owned.swap (((((Owned.swap h).set _ _).set _ _).set _ _).set _ _)
/-- what the walks ask of a slot's cells -/
structure SlotAt (w : World) (b i : Nat) (s : Sl) : Prop where
  c0 : w.cell? ⟨b, i * 4, none⟩ = some (.int .i64 s.k)
  c1 : w.cell? ⟨b, i * 4 + 1, none⟩ = some (.int .i64 s.w)
  c2 : w.cell? ⟨b, i * 4 + 2, none⟩ = some (.bool s.h)
  c3 : w.cell? ⟨b, i * 4 + 3, none⟩ = some (.int .i64 s.nx)
  f0 : w.frozen? ⟨b, i * 4, none⟩ = false
  f1 : w.frozen? ⟨b, i * 4 + 1, none⟩ = false
  f2 : w.frozen? ⟨b, i * 4 + 2, none⟩ = false
  f3 : w.frozen? ⟨b, i * 4 + 3, none⟩ = false
theorem slotAt {b i : Nat} {s : Sl} {cur : Array Value} {o : Obj} (h4 : cur.toList.take (sl.length * 4) = slCells sl) (hs : sl[i]? = some s) (h : Owned w0 w ((g, o) :: (b, .cells cur 56 (0, 0)) :: F)) : SlotAt w b i s :=
  ⟨(Owned.cell (Owned.swap h) _).trans (cur_get (j := 0) h4 rfl hs (by omega)), (Owned.cell (Owned.swap h) _).trans (cur_get (j := 1) h4 rfl hs (by omega)), (Owned.cell (Owned.swap h) _).trans (cur_get (j := 2) h4 rfl hs (by omega)), (Owned.cell (Owned.swap h) _).trans (cur_get (j := 3) h4 rfl hs (by omega)),
    Owned.frozen (Owned.swap h) _, Owned.frozen (Owned.swap h) _, Owned.frozen (Owned.swap h) _, Owned.frozen (Owned.swap h) _⟩

def DropPost (w0 : World) (F : Own) (g most : Nat) (sl : List Sl) (gone held : Nat) (err : Int) (e : Ending) (w' : World) : Prop :=
  ∃ r, e = .returned (.int .i64 err) ∧ ArenaC g most sl gone held r ∧ Owned w0 w' (r ++ F)
variable {r : Own}
set_option maxHeartbeats 800000 in
theorem drop_held (i : Nat) (s : Sl) (hr : ArenaC g most sl gone held r) (h6 : 1 ≤ i) (hs : sl[i]? = some s) (hh : s.h = true) (hheld : 1 ≤ held) (hheld2 : held ≤ 100000) (h : Owned w0 w (r ++ F)) :
    Calls Try.prog 11 #[.pointer (some ⟨g, 0, none⟩), .int .i64 i] w (DropPost w0 F g most (sl.set i ⟨0, 0, false, gone⟩) i (held - 1) 0) := by
  obtain ⟨b, cap, cur, rfl, h1, h2, h3, h4, h5, h5'⟩ := hr
  have hfind := find_calls i b cap cur h1 h4 h5' h
  have hi : i < sl.length := (List.getElem?_eq_some_iff.1 hs).1
  have hc : (1 ≤ (i : Int) ∧ (i : Int) < sl.length ∧ (sl[(i : Int).toNat]?.map Sl.h) = some true) := ⟨by omega, by omega, by simp [hs, hh]⟩
  have c2 : w.cell? ⟨g, 2, none⟩ = some (.int .i64 gone) := (Owned.cell h 2).trans rfl
  have c3 : w.cell? ⟨g, 3, none⟩ = some (.int .i64 held) := (Owned.cell h 3).trans rfl
  have f2 : w.frozen? ⟨g, 2, none⟩ = false := Owned.frozen h 2
  have f3 : w.frozen? ⟨g, 3, none⟩ = false := Owned.frozen h 3
  obtain ⟨s0, s1, s2, s3, t0, t1, t2, t3⟩ := slotAt (s := s) h4 hs h
  have hgb := Owned.ne h
  unfold FindPost at hfind
  rw [if_pos hc] at hfind
  simp only [Int.toNat_natCast] at hfind
  have hput := put4_take (s := ⟨0, 0, false, gone⟩) h4 hi
  have HI := Lib.hid hi
  have HP := Lib.hid hput
  clear hc hs hput hi h4 hh
  go_enter Try.func11, Try.ntmps11
  go_wp2_with fail
  go_at_call 23
  refine hfind.mono ?_
  rintro e w1 ⟨⟨m, rfl⟩, rfl⟩
  go_wp2_with fail
  go_ret
  have hO := Owned.set (Owned.set (own4 (h.drewN m) i ⟨0, 0, false, gone⟩) 2 (.int .i64 i)) 3 (.int .i64 ((held - 1 : Nat) : Int))
  have eh : ((held - 1 : Nat) : Int) = (held : Int) - 1 := by omega
  refine ⟨_, rfl, ⟨b, cap, put4 cur i ⟨0, 0, false, gone⟩, rfl, by rw [List.length_set]; exact h1, h2, by rw [put4_size]; exact h3, HP.out, by rw [List.length_set]; exact h5, by rw [List.length_set]; exact h5'⟩, ?_⟩
  rw [List.length_set]
  rw [eh] at hO ⊢
  exact hO
/-- of a number that is not held -/
def NotHeld (sl : List Sl) (id : Int) : Prop := ¬ (1 ≤ id ∧ id < sl.length ∧ (sl[id.toNat]?.map Sl.h) = some true)
theorem drop_none (id : Int) (hr : ArenaC g most sl gone held r) (hn : NotHeld sl id) (h : Owned w0 w (r ++ F)) :
    Calls Try.prog 11 #[.pointer (some ⟨g, 0, none⟩), .int .i64 id] w (DropPost w0 F g most sl gone held 3) := by
  have hr' := hr
  obtain ⟨b, cap, cur, rfl, h1, h2, h3, h4, h5, h5'⟩ := hr
  have hfind := find_calls id b cap cur h1 h4 h5' h
  unfold FindPost at hfind
  rw [if_neg hn] at hfind
  go_enter Try.func11, Try.ntmps11
  go_wp2_with fail
  go_at_call 23
  refine hfind.mono ?_
  rintro e w1 ⟨⟨m, rfl⟩, rfl⟩
  go_wp2_with fail
  go_ret
  exact ⟨_, rfl, hr', h.drewN m⟩
end
end Go.Proofs.Ytepjebmiegkpnaa
