/- Contracts of the arena's functions over own memory: Put. -/
import Derived.Test.YtepjebmiegkpnaaArena2
import Derived.RegionTactic
import Derived.BigRegion
namespace Go.Proofs.Ytepjebmiegkpnaa
open Go.RowKit Go.Sep
theorem slotInfo : (Try.prog.info? 56).map (fun i => (i.zero, i.size, i.bytes)) = some (some (.agg #[.int .i64 0, .int .i64 0, .bool false, .int .i64 0]), 4, 32) := by kernel_rfl
section
variable {g most gone held : Nat} {sl : List Sl} {w0 w : World} {F r : Own}
def PutPost (w0 : World) (F : Own) (g most : Nat) (sl : List Sl) (gone held : Nat) (id err : Int) (e : Ending) (w' : World) : Prop :=
  ∃ r, e = .returned (.tuple #[.int .i64 id, .int .i64 err]) ∧ ArenaC g most sl gone held r ∧ Owned w0 w' (r ++ F)
set_option maxHeartbeats 800000 in
theorem put_full (k v : Int) (hr : ArenaC g most sl gone held r) (hf : most ≤ held) (h : Owned w0 w (r ++ F)) :
    Calls Try.prog 10 #[.pointer (some ⟨g, 0, none⟩), .agg #[.int .i64 k, .int .i64 v]] w (PutPost w0 F g most sl gone held 0 2) := by
  have hr' := hr
  obtain ⟨b, cap, cur, rfl, h1, h2, h3, h4, h5, h5'⟩ := hr
  have hO1 := h.alloc_ (.cells #[.int .i64 k, .int .i64 v] 30)
  have c0 : w.cell? ⟨g, 0, none⟩ = some (.int .i64 most) := (Owned.cell h 0).trans rfl
  have c3 : w.cell? ⟨g, 3, none⟩ = some (.int .i64 held) := (Owned.cell h 3).trans rfl
  have hg : g < w.heap.size := Owned.lt h
  have hge : decide ((most : Int) ≤ (held : Int)) = true := decide_eq_true (by omega)
  go_enter Try.func10, Try.ntmps10
  go_wp2
  go_quiet (fail)
  go_wp2
  go_ret2
  exact ⟨_, rfl, hr', hO1.drewN _⟩
set_option maxHeartbeats 1600000 in
set_option maxRecDepth 100000 in
theorem put_again (k v : Int) (s : Sl) (hr : ArenaC g most sl gone held r) (hf : held < most) (hg1 : 1 ≤ gone) (hs : sl[gone]? = some s) (hh : held ≤ 100000) (h : Owned w0 w (r ++ F)) :
    Calls Try.prog 10 #[.pointer (some ⟨g, 0, none⟩), .agg #[.int .i64 k, .int .i64 v]] w (PutPost w0 F g most (sl.set gone ⟨k, v, true, 0⟩) s.nx (held + 1) gone 0) := by
  obtain ⟨b, cap, cur, rfl, h1, h2, h3, h4, h5, h5'⟩ := hr
  have hO1 := h.alloc_ (.cells #[.int .i64 k, .int .i64 v] 30)
  have c0 : w.cell? ⟨g, 0, none⟩ = some (.int .i64 most) := (Owned.cell h 0).trans rfl
  have c1 : w.cell? ⟨g, 1, none⟩ = some (.slice (some ⟨b, 0, none⟩) sl.length cap) := (Owned.cell h 1).trans rfl
  have c2 : w.cell? ⟨g, 2, none⟩ = some (.int .i64 gone) := (Owned.cell h 2).trans rfl
  have c3 : w.cell? ⟨g, 3, none⟩ = some (.int .i64 held) := (Owned.cell h 3).trans rfl
  have f2 : w.frozen? ⟨g, 2, none⟩ = false := Owned.frozen h 2
  have f3 : w.frozen? ⟨g, 3, none⟩ = false := Owned.frozen h 3
  have hg : g < w.heap.size := Owned.lt h
  have hb : b < w.heap.size := (Owned.swap h).lt
  have hgb := Owned.ne h
  obtain ⟨s0, s1, s2, s3, t0, t1, t2, t3⟩ := slotAt (s := s) h4 hs h
  have hi : gone < sl.length := (List.getElem?_eq_some_iff.1 hs).1
  have HP := Lib.hid (put4_take (s := ⟨k, v, true, 0⟩) h4 hi)
  have hge : decide ((most : Int) ≤ (held : Int)) = false := decide_eq_false (by omega)
  have hne : ((gone : Int) == 0) = false := by simp; omega
  clear h4 hs
  go_enter Try.func10, Try.ntmps10
  go_wp2
  go_quiet (fail)
  go_wp2
  go_region
  all_goals
    go_wp2
    go_ret2
    refine ⟨_, rfl, ⟨b, cap, put4 cur gone ⟨k, v, true, 0⟩, rfl, by rw [List.length_set]; exact h1, h2, by rw [put4_size]; exact h3, HP.out, by rw [List.length_set]; exact h5, by rw [List.length_set]; exact h5'⟩, ?_⟩
    rw [List.length_set]
    exact (Owned.set (own4 (Owned.set (hO1.drewN nq) 2 (.int .i64 s.nx)) gone ⟨k, v, true, 0⟩) 3 (.int .i64 ((held + 1 : Nat) : Int))).drew
set_option maxHeartbeats 1600000 in
set_option maxRecDepth 100000 in
theorem put_new (k v : Int) (hr : ArenaC g most sl 0 held r) (hf : held < most) (hh : held ≤ 100000) (hl : sl.length + 1 ≤ 100000) (h : Owned w0 w (r ++ F)) :
    Calls Try.prog 10 #[.pointer (some ⟨g, 0, none⟩), .agg #[.int .i64 k, .int .i64 v]] w (PutPost w0 F g most (sl ++ [⟨k, v, true, 0⟩]) 0 (held + 1) sl.length 0) := by
  obtain ⟨b, cap, cur, rfl, h1, h2, h3, h4, h5, h5'⟩ := hr
  have hO1 := Owned.swap3 (h.alloc (.cells #[.int .i64 k, .int .i64 v] 30))
  have c0 : w.cell? ⟨g, 0, none⟩ = some (.int .i64 most) := (Owned.cell h 0).trans rfl
  have c1 : w.cell? ⟨g, 1, none⟩ = some (.slice (some ⟨b, 0, none⟩) sl.length cap) := (Owned.cell h 1).trans rfl
  have c2 : w.cell? ⟨g, 2, none⟩ = some (.int .i64 0) := (Owned.cell h 2).trans rfl
  have c3 : w.cell? ⟨g, 3, none⟩ = some (.int .i64 held) := (Owned.cell h 3).trans rfl
  have hg : g < w.heap.size := Owned.lt h
  have hge : decide ((most : Int) ≤ (held : Int)) = false := decide_eq_false (by omega)
  have hrow : Row 56 4 (.slice (some ⟨b, 0, none⟩) sl.length cap) sl.length (slCells sl) [(b, .cells cur 56 (0, 0))] := ⟨by rw [slCells_len], .inr ⟨b, cap, cur, rfl, rfl, h1, h2, h3, h4⟩⟩
  have hm1 : sl.length + 1 ≤ maxLen := by unfold maxLen; omega
  have hm2 : (sl.length + 1) * 32 ≤ 140737488355328 := by omega
  have es : (w.alloc (.cells #[.int .i64 k, .int .i64 v] 30)).heap.size = w.heap.size + 1 := by simp
  go_enter Try.func10, Try.ntmps10
  go_wp2
  go_quiet (fail)
  have hOk := (hO1.drewN nq).alloc (.cells #[.int .i64 0, .int .i64 0, .bool false, .int .i64 0] 56)
  have es2 : ((w.alloc (.cells #[.int .i64 k, .int .i64 v] 30)).drewN nq).heap.size = w.heap.size + 1 := es
  rw [es2] at hOk
  have hnews : ∀ (j : Nat) (u : Value), [Value.int .i64 0, .int .i64 0, .bool false, .int .i64 0][j]? = some u → (((w.alloc (.cells #[.int .i64 k, .int .i64 v] 30)).drewN nq).alloc (.cells #[.int .i64 0, .int .i64 0, .bool false, .int .i64 0] 56)).cell? ((⟨w.heap.size + 1, 0, none⟩ : Addr).add j) = some u := by
    intro j u hj
    rw [Addr.add_lit, Nat.zero_add]
    refine (Owned.cell hOk j).trans ?_
    rw [← hj]
    simp
  have h1c : ∀ u ∈ [Value.int .i64 0, .int .i64 0, .bool false, .int .i64 0], u.oneCell' = true := by decide
  have hO2 := Owned.swap hOk.tail
  have HN := Lib.hid hnews
  have H4 := Lib.hid h4
  clear hnews es es2 hOk h4
  go_wp2_with (at_builtin; refine append_row rfl (.tmp 31) (.tmp 33) 52 rfl 56 (.agg #[.int .i64 0, .int .i64 0, .bool false, .int .i64 0]) 4 32 Try.underlying52 slotInfo rfl (by decide) _ sl.length (slCells sl) _ _ rfl hrow hO2 ⟨w.heap.size + 1, 0, none⟩ 1 1 [.int .i64 0, .int .i64 0, .bool false, .int .i64 0] rfl rfl HN.out h1c hm1 hm2 ?_)
  intro v4 rv4 w4 hrow4 hO4
  rcases hrow4.2 with ⟨_, h0, _⟩ | ⟨b2, cap2, cur2, rfl, rfl, q1, q2, q3, q4⟩
  · omega
  · clear hO1 hO2 hrow c0 c1 c2 c3
    have hl2 : (sl ++ [(⟨0, 0, false, 0⟩ : Sl)]).length = sl.length + 1 := by simp
    have q4' : cur2.toList.take ((sl ++ [(⟨0, 0, false, 0⟩ : Sl)]).length * 4) = slCells (sl ++ [⟨0, 0, false, 0⟩]) := by rw [hl2, q4, slCells_append]; rfl
    have hs : (sl ++ [(⟨0, 0, false, 0⟩ : Sl)])[sl.length]? = some ⟨0, 0, false, 0⟩ := by simp
    have hO5 := Owned.swap hO4
    obtain ⟨s0, s1, s2, s3, t0, t1, t2, t3⟩ := slotAt (s := ⟨0, 0, false, 0⟩) q4' hs hO5
    have c1 : w4.cell? ⟨g, 1, none⟩ = some (.slice (some ⟨b, 0, none⟩) sl.length cap) := (Owned.cell hO5 1).trans rfl
    have c2 : w4.cell? ⟨g, 2, none⟩ = some (.int .i64 0) := (Owned.cell hO5 2).trans rfl
    have c3 : w4.cell? ⟨g, 3, none⟩ = some (.int .i64 held) := (Owned.cell hO5 3).trans rfl
    have f1 : w4.frozen? ⟨g, 1, none⟩ = false := Owned.frozen hO5 1
    have f2 : w4.frozen? ⟨g, 2, none⟩ = false := Owned.frozen hO5 2
    have f3 : w4.frozen? ⟨g, 3, none⟩ = false := Owned.frozen hO5 3
    have hgb := Owned.ne hO5
    have HP := Lib.hid (put4_take (i := sl.length) (s := ⟨k, v, true, 0⟩) q4' (by rw [hl2]; omega))
    have hset : (sl ++ [(⟨0, 0, false, 0⟩ : Sl)]).set sl.length ⟨k, v, true, 0⟩ = sl ++ [⟨k, v, true, 0⟩] := by simp
    have HS := Lib.hid hset
    have hbox : w4.cell? ⟨w.heap.size, 0, none⟩ = some (.int .i64 k) ∧ w4.cell? ⟨w.heap.size, 1, none⟩ = some (.int .i64 v) := ⟨(Owned.cell (Owned.swap3 (Owned.swap3 hO5)) 0).trans rfl, (Owned.cell (Owned.swap3 (Owned.swap3 hO5)) 1).trans rfl⟩
    obtain ⟨x0, x1⟩ := hbox
    clear q4 q4' hs hset hl2 H4 HN
    go_wp2
    go_region
    all_goals
      go_wp2
      go_ret2
      have hO6 := (Owned.set (own4 (Owned.set (Owned.set hO5 1 (.slice (some ⟨b2, 0, none⟩) (sl.length + 1) cap2)) 2 (.int .i64 0)) sl.length ⟨k, v, true, 0⟩) 3 (.int .i64 ((held + 1 : Nat) : Int))).drew
      have hlen : (sl ++ [(⟨k, v, true, 0⟩ : Sl)]).length = sl.length + 1 := by simp
      refine ⟨_, rfl, ⟨b2, cap2, put4 cur2 sl.length ⟨k, v, true, 0⟩, rfl, by rw [hlen]; exact q1, q2, by rw [put4_size]; exact q3, by rw [← HS.out]; exact HP.out, by rw [hlen]; omega, by rw [hlen]; exact hl⟩, ?_⟩
      rw [hlen]
      exact (Owned.swap3 (Owned.swap3 hO6)).tail
end
end Go.Proofs.Ytepjebmiegkpnaa
