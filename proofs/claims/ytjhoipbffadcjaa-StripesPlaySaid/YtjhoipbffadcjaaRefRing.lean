/- Contracts of the reference's ring (pantryref12) over own memory. -/
import Derived.Test.YtjhoipbffadcjaaMixR
import Derived.Test.YtjhoipbffadcjaaRing3
namespace Go.Proofs.Ytjhoipbffadcjaa
open Go.RowKit Go.Sep

/-- The reference's ring: how many, what it holds, how many were lost. -/
def RefRing (g n : Nat) (L : List Int) (gone : Nat) (r : Own) : Prop :=
  ∃ v rv, r = (g, .cells #[.int .i64 n, v, .int .i64 gone] 61 (0, 0)) :: rv ∧ Row 3 1 v L.length (ints L) rv
section
variable {w0 w : World} {F : Own} {g n gone : Nat} {L : List Int} {r : Own}
def RefMade (w0 : World) (F : Own) (n : Nat) (e : Ending) (w' : World) : Prop :=
  ∃ g r, e = .returned (.pointer (some ⟨g, 0, none⟩)) ∧ RefRing g n [] 0 r ∧ Owned w0 w' (r ++ F)
set_option maxHeartbeats 400000 in
theorem ref_new (size : Int) (h : Owned w0 w F) : Calls Try.prog 33 #[.int .i64 size] w (RefMade w0 F (ringSize size)) := by
  have hc := fun w => refceil_calls size 1 4096 0 12 rfl rfl (by omega) (by omega) w
  have hs : P2 (up size 0 (12 - 0)) = ((ringSize size : Nat) : Int) := P2_nat _
  rw [hs] at hc
  clear hs
  generalize ringSize size = n at *
  go_enter Try.func33, Try.ntmps33
  go_wp2_with (go_at_call 32; refine (hc _).mono ?_; rintro e w' ⟨rfl, rfl⟩)
  go_ret
  exact ⟨w.heap.size, _, rfl, ⟨.slice none 0 0, [], rfl, Row.nil _ _⟩, h.alloc _⟩
def RefOffered (w0 : World) (F : Own) (g n : Nat) (L : List Int) (gone : Nat) (v : Int) (e : Ending) (w' : World) : Prop :=
  ∃ r, e = .returned (.bool (decide (L.length < n))) ∧ RefRing g n (if L.length < n then L ++ [v] else L) (if L.length < n then gone else gone + 1) r ∧ Owned w0 w' (r ++ F)
set_option maxHeartbeats 400000 in
theorem ref_offer (v : Int) (hr : RefRing g n L gone r) (hL : L.length ≤ 100000) (hg : gone ≤ 1000000) (h : Owned w0 w (r ++ F)) :
    Calls Try.prog 36 #[.pointer (some ⟨g, 0, none⟩), .int .i64 v] w (RefOffered w0 F g n L gone v) := by
  obtain ⟨u, rv, rfl, hrow⟩ := hr
  obtain ⟨A, c, rfl⟩ := hrow.slice
  have c0 : w.cell? ⟨g, 0, none⟩ = some (.int .i64 n) := (Owned.cell h 0).trans rfl
  have c1 : w.cell? ⟨g, 1, none⟩ = some (.slice A L.length c) := (Owned.cell h 1).trans rfl
  have c2 : w.cell? ⟨g, 2, none⟩ = some (.int .i64 gone) := (Owned.cell h 2).trans rfl
  have f1 : w.frozen? ⟨g, 1, none⟩ = false := Owned.frozen h 1
  have f2 : w.frozen? ⟨g, 2, none⟩ = false := Owned.frozen h 2
  by_cases hf : L.length < n
  · have hge : decide ((n : Int) ≤ (L.length : Int)) = false := decide_eq_false (by omega)
    have hm1 : L.length + 1 ≤ maxLen := by unfold maxLen; omega
    have hm2 : (L.length + 1) * 8 ≤ 140737488355328 := by omega
    go_enter Try.func36, Try.ntmps36
    go_wp2
    go_quiet (fail)
    have hO := Owned.comm (a := [_]) (h.drewN nq)
    go_wp2_with (at_builtin; refine append_one rfl (.tmp 26) (.tmp 28) 26 rfl 3 (.int .i64 0) 8 Try.underlying26 info3 rfl _ L.length _ rv _ _ rfl hrow hO rfl rfl hm1 hm2 ?_)
    intro v4 rv4 w4 hrow4 hO4
    obtain ⟨A4, c4, rfl⟩ := hrow4.slice
    have hO4' : Owned w0 w4 ((g, .cells #[.int .i64 n, .slice A L.length c, .int .i64 gone] 61 (0, 0)) :: (rv4 ++ F)) := Owned.comm (b := [_]) hO4
    have d1 : w4.cell? ⟨g, 1, none⟩ = some (.slice A L.length c) := (Owned.cell hO4' 1).trans rfl
    have e1 : w4.frozen? ⟨g, 1, none⟩ = false := Owned.frozen hO4' 1
    go_wp2
    go_ret
    refine ⟨(g, .cells #[.int .i64 n, .slice A4 (L.length + 1) c4, .int .i64 gone] 61 (0, 0)) :: rv4, by rw [decide_eq_true hf]; rfl, ?_, Owned.set hO4' 1 _⟩
    rw [if_pos hf, if_pos hf]
    exact ⟨_, rv4, rfl, by rw [List.length_append]; simpa [ints] using hrow4⟩
  · have hge : decide ((n : Int) ≤ (L.length : Int)) = true := decide_eq_true (by omega)
    go_enter Try.func36, Try.ntmps36
    go_wp2
    go_quiet (fail)
    go_wp2
    go_ret
    refine ⟨(g, .cells #[.int .i64 n, .slice A L.length c, .int .i64 ((gone + 1 : Nat) : Int)] 61 (0, 0)) :: rv, by rw [decide_eq_false hf]; rfl, ?_, Owned.set (h.drewN _) 2 _⟩
    rw [if_neg hf, if_neg hf]
    exact ⟨_, rv, rfl, hrow⟩
def RefTaken (w0 : World) (F : Own) (g n : Nat) (L : List Int) (gone : Nat) (e : Ending) (w' : World) : Prop :=
  ∃ r, e = .returned (.tuple #[.int .i64 (L.headD 0), .bool (!L.isEmpty)]) ∧ RefRing g n L.tail gone r ∧ Owned w0 w' (r ++ F)
set_option maxHeartbeats 400000 in
theorem ref_take (hr : RefRing g n L gone r) (hL : L.length ≤ 100000) (h : Owned w0 w (r ++ F)) :
    Calls Try.prog 34 #[.pointer (some ⟨g, 0, none⟩)] w (RefTaken w0 F g n L gone) := by
  have hr' := hr
  obtain ⟨u, rv, rfl, hrow⟩ := hr
  cases L with
  | nil =>
    obtain ⟨A, c, rfl⟩ := hrow.slice
    have c1 : w.cell? ⟨g, 1, none⟩ = some (.slice A 0 c) := (Owned.cell h 1).trans rfl
    go_enter Try.func34, Try.ntmps34
    go_wp2
    go_ret2
    exact ⟨_, rfl, hr', h⟩
  | cons x L =>
    rcases hrow.2 with ⟨_, h0, _⟩ | ⟨b, cap, cur, rfl, rfl, hn, hcap, hcs, htk⟩
    · simp at h0
    · have hlen : (x :: L).length = L.length + 1 := rfl
      rw [hlen] at hn htk hL
      have c1 : w.cell? ⟨g, 1, none⟩ = some (.slice (some ⟨b, 0, none⟩) (L.length + 1) cap) := (Owned.cell h 1).trans rfl
      have f1 : w.frozen? ⟨g, 1, none⟩ = false := Owned.frozen h 1
      have hcell : ∀ j, j < L.length + 1 → w.cell? ⟨b, j, none⟩ = some (.int .i64 ((x :: L).getD j 0)) := by
        intro j hj
        refine (Owned.cell (Owned.swap h) _).trans ?_
        have h5 : cur[j]? = (cur.toList.take ((L.length + 1) * 1))[j]? := by rw [List.getElem?_take, if_pos (by omega)]; simp
        rw [h5, htk, ← List.getElem?_toArray]
        exact ints_get _ _ (by simpa using hj)
      have cx : w.cell? ⟨b, 0, none⟩ = some (.int .i64 x) := hcell 0 (by omega)
      have HC := Lib.hid hcell
      clear hcell
      have hle : 1 ≤ L.length + 1 := by omega
      have hle2 : 1 ≤ cap := by omega
      have hg1 : g < w.heap.size := Owned.lt h
      have hb1 : b < w.heap.size := (Owned.swap h).lt
      have hO := h.alloc (.cells #[] 3)
      have hr0 : Row 3 1 (.slice (some ⟨w.heap.size, 0, none⟩) 0 0) 0 [] [(w.heap.size, .cells #[] 3 (0, 0))] := ⟨rfl, .inr ⟨_, 0, #[], rfl, rfl, by omega, by unfold maxLen; omega, rfl, rfl⟩⟩
      have hm1 : 0 + L.length ≤ maxLen := by unfold maxLen; omega
      have hm2 : (0 + L.length) * 8 ≤ 140737488355328 := by omega
      have hnews : ∀ q, (0 < L.length → q = 1) → ∀ j u, (ints L)[j]? = some u → (w.alloc (.cells #[] 3)).cell? ((⟨b, q, none⟩ : Addr).add j) = some u := by
        intro q hq j u hj
        have hjl : j < L.length := by have := (List.getElem?_eq_some_iff.1 hj).1; simpa [ints] using this
        rw [hq (by omega), Addr.add_lit, World.cell?_alloc_past _ _ _ hb1, HC.out (1 + j) (by omega)]
        have e : (x :: L).getD (1 + j) 0 = L.getD j 0 := by rw [Nat.add_comm]; simp [List.getD]
        rw [e, ← hj, ← List.getElem?_toArray, ints_get L j hjl]
      by_cases hcap1 : cap = 1
      · subst hcap1
        have hL0 : L = [] := List.eq_nil_of_length_eq_zero (by omega)
        subst hL0
        go_enter Try.func34, Try.ntmps34
        go_wp2_with (at_builtin; refine append_row rfl (.tmp 18) (.tmp 23) 26 rfl 3 (.int .i64 0) 1 8 Try.underlying26 info3 rfl (by decide) _ 0 [] _ _ rfl hr0 hO ⟨b, 0, none⟩ 0 0 [] rfl rfl (fun j u hj => by simp at hj) (fun u hu => by simp at hu) hm1 hm2 ?_)
        intro v4 rv4 w4 hrow4 hO4
        obtain ⟨A4, c4, rfl⟩ := hrow4.slice
        have hO4' := Owned.comm (b := [_]) (l := (b, .cells cur 3 (0, 0)) :: F) hO4
        have d1 : w4.cell? ⟨g, 1, none⟩ = some (.slice (some ⟨b, 0, none⟩) 1 1) := (Owned.cell hO4' 1).trans rfl
        have e1 : w4.frozen? ⟨g, 1, none⟩ = false := Owned.frozen hO4' 1
        go_wp2
        go_ret2
        refine ⟨(g, .cells #[.int .i64 n, .slice A4 (0 + 0) c4, .int .i64 gone] 61 (0, 0)) :: rv4, rfl, ⟨_, rv4, rfl, hrow4⟩, ?_⟩
        have hO5 := Owned.set hO4' 1 (.slice A4 (0 + 0) c4)
        exact (Owned.third (a := [_]) (b := rv4) (c := [(b, .cells cur 3 (0, 0))]) (l := F) hO5).drop_
      · go_enter Try.func34, Try.ntmps34
        go_wp2_with (at_builtin; refine append_row rfl (.tmp 18) (.tmp 23) 26 rfl 3 (.int .i64 0) 1 8 Try.underlying26 info3 rfl (by decide) _ 0 [] _ _ rfl hr0 hO ⟨b, 1, none⟩ L.length (cap - 1) (ints L) rfl (by rw [ints_len, Nat.mul_one]) (hnews 1 (fun _ => rfl)) (ints_one L) hm1 hm2 ?_)
        intro v4 rv4 w4 hrow4 hO4
        obtain ⟨A4, c4, rfl⟩ := hrow4.slice
        have hO4' := Owned.comm (b := [_]) (l := (b, .cells cur 3 (0, 0)) :: F) hO4
        have d1 : w4.cell? ⟨g, 1, none⟩ = some (.slice (some ⟨b, 0, none⟩) (L.length + 1) cap) := (Owned.cell hO4' 1).trans rfl
        have e1 : w4.frozen? ⟨g, 1, none⟩ = false := Owned.frozen hO4' 1
        go_wp2
        go_ret2
        refine ⟨(g, .cells #[.int .i64 n, .slice A4 L.length c4, .int .i64 gone] 61 (0, 0)) :: rv4, rfl, ⟨_, rv4, rfl, hrow4⟩, ?_⟩
        have hO5 := Owned.set hO4' 1 (.slice A4 L.length c4)
        exact (Owned.third (a := [_]) (b := rv4) (c := [(b, .cells cur 3 (0, 0))]) (l := F) hO5).drop_
def RefDrained (w0 : World) (F : Own) (g n : Nat) (L : List Int) (gone : Nat) (e : Ending) (w' : World) : Prop :=
  ∃ v r1 r, e = .returned v ∧ Row 3 1 v L.length (ints L) r1 ∧ RefRing g n [] gone r ∧ Owned w0 w' (r1 ++ (r ++ F))
set_option maxHeartbeats 400000 in
theorem ref_drain (hr : RefRing g n L gone r) (h : Owned w0 w (r ++ F)) :
    Calls Try.prog 35 #[.pointer (some ⟨g, 0, none⟩)] w (RefDrained w0 F g n L gone) := by
  obtain ⟨u, rv, rfl, hrow⟩ := hr
  obtain ⟨A, c, rfl⟩ := hrow.slice
  have c1 : w.cell? ⟨g, 1, none⟩ = some (.slice A L.length c) := (Owned.cell h 1).trans rfl
  have f1 : w.frozen? ⟨g, 1, none⟩ = false := Owned.frozen h 1
  go_enter Try.func35, Try.ntmps35
  go_wp2
  go_ret
  refine ⟨_, rv, [(g, .cells #[.int .i64 n, .slice none 0 0, .int .i64 gone] 61 (0, 0))], rfl, hrow, ⟨_, [], rfl, Row.nil _ _⟩, ?_⟩
  have hO5 := Owned.set h 1 (.slice none 0 0)
  exact Owned.comm (a := [_]) hO5
/-- what stands in it, for whoever reads it -/
theorem ref_reads (hr : RefRing g n L gone r) (h : Owned w0 w (r ++ F)) : ∃ A c, w.cell? ⟨g, 0, none⟩ = some (.int .i64 n) ∧ w.cell? ⟨g, 1, none⟩ = some (.slice A L.length c) ∧ w.cell? ⟨g, 2, none⟩ = some (.int .i64 gone) := by
  obtain ⟨u, rv, rfl, hrow⟩ := hr
  obtain ⟨A, c, rfl⟩ := hrow.slice
  exact ⟨A, c, (Owned.cell h 0).trans rfl, (Owned.cell h 1).trans rfl, (Owned.cell h 2).trans rfl⟩
theorem ref_reads_L (hr : RefRing g n L gone r) (hL : L.length ≤ 100000) (h : Owned w0 w (r ++ F)) : ∃ v, w.cell? ⟨g, 1, none⟩ = some v ∧ Reads w v L := by
  obtain ⟨u, rv, rfl, hrow⟩ := hr
  refine ⟨u, (Owned.cell h 1).trans rfl, reads_of_row (w0 := w0) (r := rv) (F := F) hrow (by omega) (Owned.tail h)⟩
end
end Go.Proofs.Ytjhoipbffadcjaa
