/- Contracts of the arena's functions, by what an arena holds; the small case. -/
import Derived.Test.YtepjebmiegkpnaaArena4
namespace Go.Proofs.Ytepjebmiegkpnaa
open Go.RowKit Go.Sep
section
/-- an arena by what it holds: nodes by numbers, and which numbers were dropped (the last one first) -/
def Arena (g most : Nat) (S : List (Option (Int × Int))) (G : List Nat) (r : Own) : Prop :=
  ∃ sl gone held, ArenaC g most sl gone held r ∧ AR sl gone held S G
def Did (w0 : World) (F : Own) (g most : Nat) (S : List (Option (Int × Int))) (G : List Nat) (v : Value) (e : Ending) (w' : World) : Prop :=
  ∃ r, e = .returned v ∧ Arena g most S G r ∧ Owned w0 w' (r ++ F)
def Said (w0 : World) (l : Own) (v : Value) (e : Ending) (w' : World) : Prop := e = .returned v ∧ Owned w0 w' l
variable {g most : Nat} {S : List (Option (Int × Int))} {G : List Nat} {w0 w : World} {F r : Own}
theorem Arena.len (hr : Arena g most S G r) : S.length + 1 ≤ 100000 := by
  obtain ⟨sl, gone, held, hc, ha⟩ := hr
  obtain ⟨b, cap, cur, _, _, _, _, _, _, h⟩ := hc
  have := ha.len; omega
theorem ar_new (most : Int) (h : Owned w0 w F) : Calls Try.prog 9 #[.int .i64 most] w
    (fun e w' => ∃ g r, e = .returned (.pointer (some ⟨g, 0, none⟩)) ∧ Arena g (mostOf most) [] [] r ∧ Owned w0 w' (r ++ F)) := by
  refine (new_calls most h).mono ?_
  rintro e w' ⟨g, r, rfl, hc, hO⟩
  exact ⟨g, r, rfl, ⟨_, _, _, hc, rfl, rfl, by simp, by simp, rfl, List.nodup_nil, by simp, rfl⟩, hO⟩
theorem ar_len (hr : Arena g most S G r) (h : Owned w0 w (r ++ F)) :
    Calls Try.prog 13 #[.pointer (some ⟨g, 0, none⟩)] w fun e w' => e = .returned (.int .i64 ((S.length - G.length : Nat) : Int)) ∧ w = w' := by
  obtain ⟨sl, gone, held, hc, ha⟩ := hr
  have e1 : S.length - G.length = held := by have := ha.held_; omega
  rw [e1]
  exact len_calls hc h
theorem ar_most (hr : Arena g most S G r) (h : Owned w0 w (r ++ F)) :
    Calls Try.prog 14 #[.pointer (some ⟨g, 0, none⟩)] w fun e w' => e = .returned (.int .i64 most) ∧ w = w' := by
  obtain ⟨sl, gone, held, hc, ha⟩ := hr
  exact most_calls hc h
theorem ar_put_full (k v : Int) (hr : Arena g most S G r) (hf : most + G.length ≤ S.length) (h : Owned w0 w (r ++ F)) :
    Calls Try.prog 10 #[.pointer (some ⟨g, 0, none⟩), .agg #[.int .i64 k, .int .i64 v]] w (Did w0 F g most S G (.tuple #[.int .i64 0, .int .i64 2])) := by
  obtain ⟨sl, gone, held, hc, ha⟩ := hr
  refine (put_full k v hc (by have := ha.held_; omega) h).mono ?_
  rintro e w' ⟨r, rfl, hc, hO⟩
  exact ⟨r, rfl, ⟨_, _, _, hc, ha⟩, hO⟩
theorem ar_put_new (k v : Int) (hr : Arena g most S [] r) (hf : S.length < most) (hl : S.length ≤ 99000) (h : Owned w0 w (r ++ F)) :
    Calls Try.prog 10 #[.pointer (some ⟨g, 0, none⟩), .agg #[.int .i64 k, .int .i64 v]] w (Did w0 F g most (S ++ [some (k, v)]) [] (.tuple #[.int .i64 ((S.length + 1 : Nat) : Int), .int .i64 0])) := by
  obtain ⟨sl, gone, held, hc, ha⟩ := hr
  obtain ⟨rfl, ha2⟩ := ha.new k v
  have h1 := ha.held_
  have h2 := ha.len
  simp only [List.length_nil, Nat.add_zero] at h1
  refine (put_new k v hc (by omega) (by omega) (by omega) h).mono ?_
  rintro e w' ⟨r, rfl, hc, hO⟩
  rw [h2]
  exact ⟨r, rfl, ⟨_, _, _, hc, ha2⟩, hO⟩
theorem ar_put_again {x : Nat} {G' : List Nat} (k v : Int) (hr : Arena g most S (x :: G') r) (hf : S.length ≤ most + G'.length) (h : Owned w0 w (r ++ F)) :
    Calls Try.prog 10 #[.pointer (some ⟨g, 0, none⟩), .agg #[.int .i64 k, .int .i64 v]] w (Did w0 F g most (S.set (x - 1) (some (k, v))) G' (.tuple #[.int .i64 ((x : Nat) : Int), .int .i64 0])) := by
  have hlen := hr.len
  obtain ⟨sl, gone, held, hc, ha⟩ := hr
  obtain ⟨nx, h1, rfl, h2, h3, ha2⟩ := ha.again k v
  have h4 := ha.held_
  simp only [List.length_cons] at h4
  refine (put_again k v _ hc (by omega) h2 h1 (by omega) h).mono ?_
  rintro e w' ⟨r, rfl, hc, hO⟩
  exact ⟨r, rfl, ⟨_, _, _, hc, ha2⟩, hO⟩
theorem ar_drop {id k v : Int} (hl : look S id = some (k, v)) (hr : Arena g most S G r) (h : Owned w0 w (r ++ F)) :
    Calls Try.prog 11 #[.pointer (some ⟨g, 0, none⟩), .int .i64 id] w (Did w0 F g most (S.set (id.toNat - 1) none) (id.toNat :: G) (.int .i64 0)) := by
  have hlen := hr.len
  obtain ⟨sl, gone, held, hc, ha⟩ := hr
  obtain ⟨h1, h2, h3, h4, h5⟩ := ha.look_some hl
  obtain ⟨ha2, h6⟩ := ha.drop hl
  have h7 := ha.held_
  have hk := drop_held id.toNat _ hc (by omega) h3 rfl h6 (by omega) h
  rw [show ((id.toNat : Nat) : Int) = id by omega] at hk
  refine hk.mono ?_
  rintro e w' ⟨r, rfl, hc, hO⟩
  exact ⟨r, rfl, ⟨_, _, _, hc, ha2⟩, hO⟩
theorem ar_drop_none {id : Int} (hl : look S id = none) (hr : Arena g most S G r) (h : Owned w0 w (r ++ F)) :
    Calls Try.prog 11 #[.pointer (some ⟨g, 0, none⟩), .int .i64 id] w (Did w0 F g most S G (.int .i64 3)) := by
  obtain ⟨sl, gone, held, hc, ha⟩ := hr
  refine (drop_none id hc (ha.look_none hl) h).mono ?_
  rintro e w' ⟨r, rfl, hc, hO⟩
  exact ⟨r, rfl, ⟨_, _, _, hc, ha⟩, hO⟩
theorem ar_get {id k v : Int} (hl : look S id = some (k, v)) (hr : Arena g most S G r) (h : Owned w0 w (r ++ F)) :
    Calls Try.prog 12 #[.pointer (some ⟨g, 0, none⟩), .int .i64 id] w (Said w0 (r ++ F) (.tuple #[.agg #[.int .i64 k, .int .i64 v], .int .i64 0])) := by
  obtain ⟨sl, gone, held, hc, ha⟩ := hr
  obtain ⟨h1, h2, h3, h4, h5⟩ := ha.look_some hl
  have hk := get_held id.toNat _ hc (by omega) h3 rfl h
  rw [show ((id.toNat : Nat) : Int) = id by omega] at hk
  exact hk
theorem ar_get_none {id : Int} (hl : look S id = none) (hr : Arena g most S G r) (h : Owned w0 w (r ++ F)) :
    Calls Try.prog 12 #[.pointer (some ⟨g, 0, none⟩), .int .i64 id] w (Said w0 (r ++ F) (.tuple #[.agg #[.int .i64 0, .int .i64 0], .int .i64 3])) := by
  obtain ⟨sl, gone, held, hc, ha⟩ := hr
  exact get_none id hc (ha.look_none hl) h
theorem ar_set {id k v : Int} (k' v' : Int) (hl : look S id = some (k, v)) (hr : Arena g most S G r) (h : Owned w0 w (r ++ F)) :
    Calls Try.prog 15 #[.pointer (some ⟨g, 0, none⟩), .int .i64 id, .agg #[.int .i64 k', .int .i64 v']] w (Did w0 F g most (S.set (id.toNat - 1) (some (k', v'))) G (.int .i64 0)) := by
  obtain ⟨sl, gone, held, hc, ha⟩ := hr
  obtain ⟨h1, h2, h3, h4, h5⟩ := ha.look_some hl
  have hk := set_held id.toNat _ k' v' hc (by omega) h3 rfl h
  rw [show ((id.toNat : Nat) : Int) = id by omega] at hk
  refine hk.mono ?_
  rintro e w' ⟨r, rfl, hc, hO⟩
  exact ⟨r, rfl, ⟨_, _, _, hc, ha.set hl⟩, hO⟩
theorem ar_set_none {id : Int} (k' v' : Int) (hl : look S id = none) (hr : Arena g most S G r) (h : Owned w0 w (r ++ F)) :
    Calls Try.prog 15 #[.pointer (some ⟨g, 0, none⟩), .int .i64 id, .agg #[.int .i64 k', .int .i64 v']] w (Did w0 F g most S G (.int .i64 3)) := by
  obtain ⟨sl, gone, held, hc, ha⟩ := hr
  refine (set_none id k' v' hc (ha.look_none hl) h).mono ?_
  rintro e w' ⟨r, rfl, hc, hO⟩
  exact ⟨r, rfl, ⟨_, _, _, hc, ha⟩, hO⟩
set_option maxHeartbeats 1600000 in
set_option maxRecDepth 100000 in
theorem small_calls (w0 : World) : Calls Try.prog 8 #[] w0 fun e w' => e = .returned (.bool true) ∧ Below w0.heap.size w0 w' := by
  obtain ⟨F, hO0⟩ : ∃ F, Owned w0 w0 F := ⟨[], Owned.nil w0⟩
  go_enter Try.func8, Try.ntmps8
  go_wp2_with fail
  go_at_call 9
  refine (ar_new 3 hO0).mono ?_
  rintro e w1 ⟨g, r1, rfl, hr1, hO1⟩
  rw [show mostOf 3 = 3 from rfl] at hr1
  go_wp2_with fail
  go_at_call 10
  refine (ar_put_new 7 0 hr1 (by decide) (by decide) hO1).mono ?_
  rintro e w2 ⟨r2, rfl, hr2, hO2⟩
  go_wp2_with fail
  go_at_call 10
  refine (ar_put_new 8 0 hr2 (by decide) (by decide) hO2).mono ?_
  rintro e w3 ⟨r3, rfl, hr3, hO3⟩
  go_wp2_with fail
  go_at_call 11
  refine (ar_drop (id := 1) (k := 7) (v := 0) rfl hr3 hO3).mono ?_
  rintro e w4 ⟨r4, rfl, hr4, hO4⟩
  go_wp2_with fail
  go_at_call 10
  refine (ar_put_again 9 0 hr4 (by decide) hO4).mono ?_
  rintro e w5 ⟨r5, rfl, hr5, hO5⟩
  go_wp2_with fail
  go_at_call 10
  refine (ar_put_new 10 0 hr5 (by decide) (by decide) hO5).mono ?_
  rintro e w6 ⟨r6, rfl, hr6, hO6⟩
  go_wp2_with fail
  go_at_call 10
  refine (ar_put_full 0 0 hr6 (by decide) hO6).mono ?_
  rintro e w7 ⟨r7, rfl, hr7, hO7⟩
  go_wp2_with fail
  go_at_call 12
  refine (ar_get (id := 1) (k := 9) (v := 0) rfl hr7 hO7).mono ?_
  rintro e w8 ⟨rfl, hO8⟩
  have hO9 := hO8.alloc_ (.cells #[.int .i64 9, .int .i64 0] 30)
  go_wp2_with fail
  go_at_call 13
  refine (ar_len hr7 hO9).mono ?_
  rintro e w9 ⟨rfl, rfl⟩
  go_wp2_with fail
  go_at_call 14
  refine (ar_most hr7 hO9).mono ?_
  rintro e w9 ⟨rfl, rfl⟩
  go_wp2_with fail
  go_ret
  exact ⟨rfl, hO9.below⟩
end
end Go.Proofs.Ytepjebmiegkpnaa
