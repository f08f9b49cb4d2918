/- Contracts of the arena's functions over own memory: Get, Set, Len, Most, New, Put. -/
import Derived.Test.YtepjebmiegkpnaaArena
namespace Go.Proofs.Ytepjebmiegkpnaa
open Go.RowKit Go.Sep
section
variable {g most gone held : Nat} {sl : List Sl} {w0 w : World} {F r : Own}
theorem len_calls (hr : ArenaC g most sl gone held r) (h : Owned w0 w (r ++ F)) :
    Calls Try.prog 13 #[.pointer (some ⟨g, 0, none⟩)] w fun e w' => e = .returned (.int .i64 held) ∧ w = w' := by
  obtain ⟨b, cap, cur, rfl, h1, h2, h3, h4, h5, h5'⟩ := hr
  have c3 : w.cell? ⟨g, 3, none⟩ = some (.int .i64 held) := (Owned.cell h 3).trans rfl
  go_enter Try.func13, Try.ntmps13
  go_wp2
  go_ret
  exact ⟨rfl, rfl⟩
theorem most_calls (hr : ArenaC g most sl gone held r) (h : Owned w0 w (r ++ F)) :
    Calls Try.prog 14 #[.pointer (some ⟨g, 0, none⟩)] w fun e w' => e = .returned (.int .i64 most) ∧ w = w' := by
  obtain ⟨b, cap, cur, rfl, h1, h2, h3, h4, h5, h5'⟩ := hr
  have c3 : w.cell? ⟨g, 0, none⟩ = some (.int .i64 most) := (Owned.cell h 0).trans rfl
  go_enter Try.func14, Try.ntmps14
  go_wp2
  go_ret
  exact ⟨rfl, rfl⟩
theorem setIf_same {a : Array Value} {i : Nat} {v : Value} (h : a[i]? = some v) : a.setIfInBounds i v = a := by
  apply Array.ext_getElem?
  intro q
  by_cases e : i = q
  · subst e
    rw [Array.getElem?_setIfInBounds_self_of_lt (Array.getElem?_eq_some_iff.1 h).1, h]
  · rw [Array.getElem?_setIfInBounds_ne e]
def GetPost (w0 : World) (l : Own) (k v err : Int) (e : Ending) (w' : World) : Prop :=
  e = .returned (.tuple #[.agg #[.int .i64 k, .int .i64 v], .int .i64 err]) ∧ Owned w0 w' l
set_option maxHeartbeats 800000 in
theorem get_held (i : Nat) (s : Sl) (hr : ArenaC g most sl gone held r) (h6 : 1 ≤ i) (hs : sl[i]? = some s) (hh : s.h = true) (h : Owned w0 w (r ++ F)) :
    Calls Try.prog 12 #[.pointer (some ⟨g, 0, none⟩), .int .i64 i] w (GetPost w0 (r ++ F) s.k s.w 0) := by
  obtain ⟨b, cap, cur, rfl, h1, h2, h3, h4, h5, h5'⟩ := hr
  have hf := find_calls i b cap cur h1 h4 h5' (h.alloc_ (.cells #[.int .i64 0, .int .i64 0] 30))
  have hi : i < sl.length := (List.getElem?_eq_some_iff.1 hs).1
  have hc : (1 ≤ (i : Int) ∧ (i : Int) < sl.length ∧ (sl[(i : Int).toNat]?.map Sl.h) = some true) := ⟨by omega, by omega, by simp [hs, hh]⟩
  obtain ⟨s0, s1, _, _, _, _, _, _⟩ := slotAt (s := s) h4 hs h
  have hb : b < w.heap.size := (Owned.swap h).lt
  unfold FindPost at hf
  rw [if_pos hc] at hf
  simp only [Int.toNat_natCast] at hf
  clear hc hs h4 hh
  go_enter Try.func12, Try.ntmps12
  go_wp2_with fail
  go_at_call 23
  refine hf.mono ?_
  rintro e w1 ⟨⟨m, rfl⟩, rfl⟩
  go_wp2_with fail
  refine bodyPost_ret (v := .tuple #[.agg #[.int .i64 s.k, .int .i64 s.w], .int .i64 0]) (by simp [results, Try.results12, go_sem]) rfl ⟨rfl, ?_⟩
  exact ((((h.alloc (.cells #[.int .i64 0, .int .i64 0] 30)).drewN m).set 0 _).set 1 _).tail
set_option maxHeartbeats 800000 in
theorem get_none (id : Int) (hr : ArenaC g most sl gone held r) (hn : NotHeld sl id) (h : Owned w0 w (r ++ F)) :
    Calls Try.prog 12 #[.pointer (some ⟨g, 0, none⟩), .int .i64 id] w (GetPost w0 (r ++ F) 0 0 3) := by
  obtain ⟨b, cap, cur, rfl, h1, h2, h3, h4, h5, h5'⟩ := hr
  have hf := find_calls id b cap cur h1 h4 h5' (h.alloc_ (.cells #[.int .i64 0, .int .i64 0] 30))
  unfold FindPost at hf
  rw [if_neg hn] at hf
  go_enter Try.func12, Try.ntmps12
  go_wp2_with fail
  go_at_call 23
  refine hf.mono ?_
  rintro e w1 ⟨⟨m, rfl⟩, rfl⟩
  go_wp2_with fail
  refine bodyPost_ret (v := .tuple #[.agg #[.int .i64 0, .int .i64 0], .int .i64 3]) (by simp [results, Try.results12, go_sem]) rfl ⟨rfl, ?_⟩
  exact ((((h.alloc (.cells #[.int .i64 0, .int .i64 0] 30)).drewN m).set 0 _).set 1 _).tail
set_option maxHeartbeats 800000 in
theorem set_held (i : Nat) (s : Sl) (k v : Int) (hr : ArenaC g most sl gone held r) (h6 : 1 ≤ i) (hs : sl[i]? = some s) (hh : s.h = true) (h : Owned w0 w (r ++ F)) :
    Calls Try.prog 15 #[.pointer (some ⟨g, 0, none⟩), .int .i64 i, .agg #[.int .i64 k, .int .i64 v]] w (DropPost w0 F g most (sl.set i ⟨k, v, s.h, s.nx⟩) gone held 0) := by
  obtain ⟨b, cap, cur, rfl, h1, h2, h3, h4, h5, h5'⟩ := hr
  have hO1 := h.alloc_ (.cells #[.int .i64 k, .int .i64 v] 30)
  have hf := find_calls i b cap cur h1 h4 h5' hO1
  have hi : i < sl.length := (List.getElem?_eq_some_iff.1 hs).1
  have hc : (1 ≤ (i : Int) ∧ (i : Int) < sl.length ∧ (sl[(i : Int).toNat]?.map Sl.h) = some true) := ⟨by omega, by omega, by simp [hs, hh]⟩
  have hA := slotAt (s := s) h4 hs h
  have hA1 := slotAt (s := s) h4 hs hO1
  obtain ⟨s0, s1, _, _, t0, t1, _, _⟩ := hA
  have hb : b < w.heap.size := (Owned.swap h).lt
  have hput := put4_take (s := ⟨k, v, s.h, s.nx⟩) h4 hi
  have HP := Lib.hid hput
  unfold FindPost at hf
  rw [if_pos hc] at hf
  simp only [Int.toNat_natCast] at hf
  have hsame : Owned w0 ((((w.alloc (.cells #[.int .i64 k, .int .i64 v] 30)).setCell ⟨b, i * 4, none⟩ (.int .i64 k)).setCell ⟨b, i * 4 + 1, none⟩ (.int .i64 v))) ((g, .cells #[.int .i64 most, .slice (some ⟨b, 0, none⟩) sl.length cap, .int .i64 gone, .int .i64 held] 54 (0, 0)) :: (b, .cells (put4 cur i ⟨k, v, s.h, s.nx⟩) 56 (0, 0)) :: F) := by
    have e : put4 cur i ⟨k, v, s.h, s.nx⟩ = (cur.setIfInBounds (i * 4) (.int .i64 k)).setIfInBounds (i * 4 + 1) (.int .i64 v) := by
      have g2 : cur[i * 4 + 2]? = some (.bool s.h) := cur_get (j := 2) h4 rfl hs (by omega)
      have g3 : cur[i * 4 + 3]? = some (.int .i64 s.nx) := cur_get (j := 3) h4 rfl hs (by omega)
      have e2 : ((cur.setIfInBounds (i * 4) (.int .i64 k)).setIfInBounds (i * 4 + 1) (.int .i64 v))[i * 4 + 2]? = some (.bool s.h) := by
        rw [Array.getElem?_setIfInBounds_ne (by omega), Array.getElem?_setIfInBounds_ne (by omega)]; exact g2
      have e3 : ((cur.setIfInBounds (i * 4) (.int .i64 k)).setIfInBounds (i * 4 + 1) (.int .i64 v))[i * 4 + 3]? = some (.int .i64 s.nx) := by
        rw [Array.getElem?_setIfInBounds_ne (by omega), Array.getElem?_setIfInBounds_ne (by omega)]; exact g3
      show (((cur.setIfInBounds (i * 4) (.int .i64 k)).setIfInBounds (i * 4 + 1) (.int .i64 v)).setIfInBounds (i * 4 + 2) (.bool s.h)).setIfInBounds (i * 4 + 3) (.int .i64 s.nx) = _
      rw [setIf_same e2, setIf_same e3]
    rw [e]
    exact Owned.swap ((((Owned.swap hO1).set _ _).set _ _))
  have HS := Lib.hid hsame
  clear hc hs h4 hh hput hsame hA1
  go_enter Try.func15, Try.ntmps15
  go_wp2_with fail
  go_at_call 23
  refine hf.mono ?_
  rintro e w1 ⟨⟨m, rfl⟩, rfl⟩
  go_wp2_with fail
  go_ret
  refine ⟨_, rfl, ⟨b, cap, put4 cur i ⟨k, v, s.h, s.nx⟩, rfl, by rw [List.length_set]; exact h1, h2, by rw [put4_size]; exact h3, HP.out, by rw [List.length_set]; exact h5, by rw [List.length_set]; exact h5'⟩, ?_⟩
  rw [List.length_set]
  exact HS.out.drewN m
theorem set_none (id k v : Int) (hr : ArenaC g most sl gone held r) (hn : NotHeld sl id) (h : Owned w0 w (r ++ F)) :
    Calls Try.prog 15 #[.pointer (some ⟨g, 0, none⟩), .int .i64 id, .agg #[.int .i64 k, .int .i64 v]] w (DropPost w0 F g most sl gone held 3) := by
  have hr' := hr
  obtain ⟨b, cap, cur, rfl, h1, h2, h3, h4, h5, h5'⟩ := hr
  have hO1 := h.alloc_ (.cells #[.int .i64 k, .int .i64 v] 30)
  have hf := find_calls id b cap cur h1 h4 h5' hO1
  unfold FindPost at hf
  rw [if_neg hn] at hf
  go_enter Try.func15, Try.ntmps15
  go_wp2_with fail
  go_at_call 23
  refine hf.mono ?_
  rintro e w1 ⟨⟨m, rfl⟩, rfl⟩
  go_wp2_with fail
  go_ret
  exact ⟨_, rfl, hr', hO1.drewN m⟩
def NewPost (w0 : World) (F : Own) (most : Nat) (e : Ending) (w' : World) : Prop :=
  ∃ g r, e = .returned (.pointer (some ⟨g, 0, none⟩)) ∧ ArenaC g most [⟨0, 0, false, 0⟩] 0 0 r ∧ Owned w0 w' (r ++ F)
/-- how many an arena may hold -/
def mostOf (most : Int) : Nat := (min (max 0 most) 65536).toNat
set_option maxHeartbeats 800000 in
theorem new_calls (most : Int) (h : Owned w0 w F) :
    Calls Try.prog 9 #[.int .i64 most] w (NewPost w0 F (mostOf most)) := by
  have hmk : ∀ w, (Instr.makeSlice 52 (.int .i64 1) (.int .i64 1)).run Try.prog w = .ok (.slice (some ⟨w.heap.size, 0, none⟩) 1 1) (w.alloc (.cells #[.int .i64 0, .int .i64 0, .bool false, .int .i64 0] 56)) := fun _ => by kernel_rfl
  have hm : ((mostOf most : Nat) : Int) = min (max 0 most) 65536 := by unfold mostOf; omega
  have HM := Lib.hid hm
  clear hm
  have hO : ∀ X : Int, ((mostOf most : Nat) : Int) = X → Owned w0 ((w.alloc (.cells #[.int .i64 0, .int .i64 0, .bool false, .int .i64 0] 56)).alloc (.cells #[.int .i64 X, .slice (some ⟨w.heap.size, 0, none⟩) 1 1, .int .i64 0, .int .i64 0] 54))
      ([(w.heap.size + 1, .cells #[.int .i64 ((mostOf most : Nat) : Int), .slice (some ⟨w.heap.size, 0, none⟩) 1 1, .int .i64 0, .int .i64 0] 54 (0, 0)), (w.heap.size, .cells #[.int .i64 0, .int .i64 0, .bool false, .int .i64 0] 56 (0, 0))] ++ F) := by
    intro X hX
    rw [hX]
    have k := (h.alloc (.cells #[.int .i64 0, .int .i64 0, .bool false, .int .i64 0] 56)).alloc (.cells #[.int .i64 X, .slice (some ⟨w.heap.size, 0, none⟩) 1 1, .int .i64 0, .int .i64 0] 54)
    have es : (w.alloc (.cells #[.int .i64 0, .int .i64 0, .bool false, .int .i64 0] 56)).heap.size = w.heap.size + 1 := by simp
    rw [es] at k
    exact k
  have HO := Lib.hid hO
  clear hO
  have fin : ArenaC (w.heap.size + 1) (mostOf most) [⟨0, 0, false, 0⟩] 0 0 [(w.heap.size + 1, .cells #[.int .i64 ((mostOf most : Nat) : Int), .slice (some ⟨w.heap.size, 0, none⟩) 1 1, .int .i64 0, .int .i64 0] 54 (0, 0)), (w.heap.size, .cells #[.int .i64 0, .int .i64 0, .bool false, .int .i64 0] 56 (0, 0))] :=
    ⟨w.heap.size, 1, _, rfl, by simp, by unfold maxLen; omega, rfl, rfl, by simp, by simp⟩
  go_enter Try.func9, Try.ntmps9
  go_wp2_with fail
  all_goals
    go_ret
    exact ⟨_, _, rfl, fin, HO.out _ (by have := HM.out; omega)⟩
end
end Go.Proofs.Ytepjebmiegkpnaa
