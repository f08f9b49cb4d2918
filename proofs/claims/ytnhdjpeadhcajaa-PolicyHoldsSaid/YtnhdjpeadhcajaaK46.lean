/- Merged texts: Layer 11: a policy's contracts, by what stands. Layer 11: the statements' small case comes out right. -/
import Derived.Test.YtnhdjpeadhcajaaK44
import Derived.Test.YtnhdjpeadhcajaaK45
import Derived.Test.YtnhdjpeadhcajaaK05
namespace Go.Proofs.Ytnhdjpeadhcajaa
open Go.RowKit Go.Sep DqPure
set_option maxRecDepth 100000
section
variable {g k : Nat} {P : PSt} {F : Sep.Own} {w0 w : World} {d nd key wt : Int}
theorem y_do (hs : Stands w0 F g k P w) (hk : k ≤ 999990) (d nd key wt : Int) (hnd : wfk nd) (hkey : wfk key) :
    Calls Try.prog 12 #[.pointer (some ⟨g, 0, none⟩), .agg #[.int .i64 d, .int .i64 nd, .int .i64 key, .int .i64 wt]] w fun e w' => ∃ v rq, e = .returned (.tuple #[v, .int .i64 (P.act d nd key wt).2.2]) ∧ Row 3 1 v (P.act d nd key wt).2.1.length (ints (P.act d nd key wt).2.1) rq ∧ Stands w0 (rq ++ F) g (k + 2) (P.act d nd key wt).1 w' := by
  obtain ⟨_, _, _, _, _, _, _, hin, hO⟩ := hs.open_
  refine (p_do hin hk d nd key wt hnd hkey hO).mono ?_
  rintro e w' ⟨v, rq, rfl, h1, h2, -⟩
  exact ⟨v, rq, rfl, h1, h2⟩
theorem y_row (hs : Stands w0 F g k P w) (hk : k ≤ 1000000) (x : Int) :
    Calls Try.prog 13 #[.pointer (some ⟨g, 0, none⟩), .int .i64 x] w fun e w' => ∃ v rq, e = .returned v ∧ Row 3 1 v (P.row x).length (ints (P.row x)) rq ∧ Stands w0 (rq ++ F) g k P w' := by
  obtain ⟨gf, gd, gm, rf, rd, o, n, hin, hO⟩ := hs.open_
  refine (p_row hin hk x hO).mono ?_
  rintro e w' ⟨v, rq, rfl, h1, h2⟩
  refine ⟨v, rq, rfl, h1, hin.shut (g := g) (gf := gf) (gd := gd) (gm := gm) (rf := rf) (rd := rd) (F := rq ++ F) (h2.perm ?_)⟩
  exact perm4 (polB g gf gd gm P o) rf rd rq F |>.symm
theorem y_weight (hs : Stands w0 F g k P w) (hk : k ≤ 1000000) :
    Calls Try.prog 14 #[.pointer (some ⟨g, 0, none⟩)] w fun e w' => e = .returned (.int .i64 P.wt) ∧ Below w.heap.size w w' := by
  obtain ⟨_, _, _, _, _, _, _, hin, hO⟩ := hs.open_
  exact p_weight hin hk hO
theorem y_often (hs : Stands w0 F g k P w) (x : Int) :
    Calls Try.prog 19 #[.pointer (some ⟨g, 0, none⟩), .int .i64 x] w fun e w' => e = .returned (.int .i64 (P.oft x : Int)) ∧ Below w.heap.size w w' := by
  obtain ⟨_, _, _, _, _, _, _, hin, hO⟩ := hs.open_
  exact p_often hin x hO
theorem y_key (hs : Stands w0 F g k P w) (x : Int) (hx : wfk x) :
    Calls Try.prog 20 #[.pointer (some ⟨g, 0, none⟩), .int .i64 x] w fun e w' => e = .returned (.tuple #[.int .i64 (P.key x), .bool (P.ks x).isSome]) ∧ Below w.heap.size w w' := by
  obtain ⟨_, _, _, _, _, _, _, hin, hO⟩ := hs.open_
  exact p_key hin x hx hO
theorem y_quota (hs : Stands w0 F g k P w) :
    Calls Try.prog 17 #[.pointer (some ⟨g, 0, none⟩)] w fun e w' => e = .returned (.agg #[.int .i64 P.cap, .int .i64 P.qw, .int .i64 P.pq]) ∧ Below w.heap.size w w' := by
  obtain ⟨_, _, _, _, _, _, _, hin, hO⟩ := hs.open_
  exact p_quota hO
theorem y_climb (hs : Stands w0 F g k P w) :
    Calls Try.prog 18 #[.pointer (some ⟨g, 0, none⟩)] w fun e w' => e = .returned (.agg #[.int .i64 P.ch, .int .i64 P.cm, .int .i64 P.cl, .int .i64 P.cs]) ∧ Below w.heap.size w w' := by
  obtain ⟨_, _, _, _, _, _, _, hin, hO⟩ := hs.open_
  exact p_climb hO
theorem y_new (cap seed : Int) (hO : Owned w0 w F) :
    Calls Try.prog 10 #[.int .i64 cap, .int .i64 seed] w fun e w' => ∃ g, e = .returned (.pointer (some ⟨g, 0, none⟩)) ∧ Stands w0 F g 0 (PSt.new cap seed) w' := p_new cap seed hO
theorem Stands.under {w' : World} (h : Stands w0 F g k P w) (hb : Below w.heap.size w w') : Stands w0 F g k P w' := by
  obtain ⟨r, hr, hO⟩ := h
  exact ⟨r, hr, hO.under hb⟩
theorem Stands.below {w' : World} (h : Stands w0 F g k P w') : Below w0.heap.size w0 w' := by
  obtain ⟨r, hr, hO⟩ := h
  exact hO.below
theorem Stands.own {w' : World} (h : Stands w0 F g k P w') : ∃ G : Sep.Own, Owned w0 w' (F ++ G) := by
  obtain ⟨r, hr, hO⟩ := h
  exact ⟨r, hO.perm List.perm_append_comm⟩
/-- the frame in another order, or less of it -/
theorem Stands.frame' {F' : Sep.Own} (h : Stands w0 F g k P w) (hf : ∀ q : Sep.Own, Owned w0 w (q ++ F) → Owned w0 w (q ++ F')) : Stands w0 F' g k P w := by
  obtain ⟨r, hr, hO⟩ := h
  exact ⟨r, hr, hf r hO⟩
theorem Stands.perm {F' : Sep.Own} (h : Stands w0 F g k P w) (hp : F.Perm F') : Stands w0 F' g k P w := h.frame' (fun q hO => hO.perm (List.Perm.append_left q hp))
theorem Stands.sub {F' : Sep.Own} (h : Stands w0 F g k P w) (hp : F'.Sublist F) : Stands w0 F' g k P w := h.frame' (fun q hO => hO.sub ((List.Sublist.refl q).append hp))
/-- a row that is held reads as its numbers -/
theorem reads_in {G : Sep.Own} {rq : Sep.Own} {v : Value} {l : List Int} (hr : Row 3 1 v l.length (ints l) rq) (hO : Owned w0 w (rq ++ G)) : Reads w v l := by
  refine reads_of_row hr ?_ hO
  rcases hr.2 with ⟨rfl, h0, rfl⟩ | ⟨g, cap, cur, rfl, rfl, h1, h2, h3, h4⟩
  · omega
  · unfold maxLen at h2; omega
theorem Stands.reads {rq : Sep.Own} {v : Value} {l : List Int} (h : Stands w0 (rq ++ F) g k P w) (hr : Row 3 1 v l.length (ints l) rq) : Reads w v l := by
  obtain ⟨r, -, hO⟩ := h
  exact reads_in hr hO.comm
end
end Go.Proofs.Ytnhdjpeadhcajaa
namespace Go.Proofs.Ytnhdjpeadhcajaa
open Go.RowKit Go.Sep DqPure
set_option maxRecDepth 100000
section
variable {F : Sep.Own} {w0 w : World}
theorem sm_wt (sd : Int) (wd : Nat) (G : FSt) : (smP sd wd G [(3, 1)] [(1, 1)] smK3 3).wt = 2 := rfl
set_option maxHeartbeats 6400000 in
theorem small_own (hO : Owned w0 w F) : Calls Try.prog 9 #[] w fun e w' => e = .returned (.bool true) ∧ Owned w0 w' F := by
  have cn := y_new 2 1 hO
  rw [sm_new] at cn
  have hw : ∀ x : Int, 0 ≤ x ∧ x ≤ 10 → wfk x := fun x hx => wfk_of (by omega) (by omega)
  have c1 := fun (g : Nat) (W : World) (hs : Stands w0 F g 0 (smP 1 (wordN 2) (FSt.new 2) [] [] (fun _ => none) 0) W) => y_do hs (by omega) 1 1 7 1 (hw 1 (by omega)) (hw 7 (by omega))
  rw [sm1] at c1
  have c2 := fun (g : Nat) (G : Sep.Own) (W : World) (hs : Stands w0 G g 2 (smP 1 (wordN 2) ((FSt.new 2).next 1 (wordN 2) 7) [(1, 1)] [] (updK (fun _ => none) 1 (some 7)) 1) W) => y_do hs (by omega) 1 2 7 1 (hw 2 (by omega)) (hw 7 (by omega))
  rw [sm2_] at c2
  have c3 := fun (g : Nat) (G : Sep.Own) (W : World) (hs : Stands w0 G g 4 (smP 1 (wordN 2) (((FSt.new 2).next 1 (wordN 2) 7).next 1 (wordN 2) 7) [(2, 1)] [(1, 1)] smK 2) W) => y_do hs (by omega) 1 3 7 1 (hw 3 (by omega)) (hw 7 (by omega))
  rw [sm3] at c3
  have c4 := fun (g : Nat) (G : Sep.Own) (W : World) (hs : Stands w0 G g 6 (smP 1 (wordN 2) ((((FSt.new 2).next 1 (wordN 2) 7).next 1 (wordN 2) 7).next 1 (wordN 2) 7) [(3, 1)] [(1, 1)] smK3 3) W) => y_do hs (by omega) 1 4 7 3 (hw 4 (by omega)) (hw 7 (by omega))
  rw [sm4] at c4
  have HC1 := Lib.hid c1
  have HC2 := Lib.hid c2
  have HC3 := Lib.hid c3
  have HC4 := Lib.hid c4
  have HOF := Lib.hid (sm_often)
  have HW3 := Lib.hid (hw 3 (by omega))
  clear c1 c2 c3 c4 hw hO
  go_enter Try.func9, Try.ntmps9
  go_wp2_with fail
  go_at_call 10
  refine (cn).mono ?_
  rintro e w1 ⟨g, rfl, hs1⟩
  have q1 := HC1.out g _ hs1
  clear cn hs1
  go_wp2_with fail
  go_at_call 12
  refine (q1).mono ?_
  rintro e w2 ⟨v1, r1, rfl, hr1, hs2⟩
  obtain ⟨A1, c1, rfl⟩ := hr1.slice
  have q2 := HC2.out g _ _ (hs2.sub (List.sublist_append_right r1 F))
  clear q1 hr1 hs2
  go_wp2_with fail
  go_at_call 12
  refine (q2).mono ?_
  rintro e w3 ⟨v2, r2, rfl, hr2, hs3⟩
  obtain ⟨A2, c2, rfl⟩ := hr2.slice
  have hs3 := hs3.sub (List.sublist_append_right r2 F)
  have q3 := y_row hs3 (by omega) 0
  clear q2 hr2 hs3
  go_wp2_with fail
  go_at_call 13
  refine (q3).mono ?_
  rintro e w4 ⟨v3, r3, rfl, hr3, hs4⟩
  replace hr3 : Row 3 1 v3 [(2 : Int)].length (ints [2]) r3 := hr3
  have q4 := HC3.out g _ _ hs4
  have HR3 := Lib.hid hr3
  clear q3 hr3 hs4
  go_wp2_with fail
  go_at_call 12
  refine (q4).mono ?_
  rintro e w5 ⟨v4, r4, rfl, hr4, hs5⟩
  replace hr4 : Row 3 1 v4 [(2 : Int)].length (ints [2]) r4 := hr4
  have q5 := HC4.out g _ _ hs5
  have HR4 := Lib.hid hr4
  clear q4 hr4 hs5
  go_wp2_with fail
  go_at_call 12
  refine (q5).mono ?_
  rintro e w6 ⟨v5, r5, rfl, hr5, hs6⟩
  have hs6 := hs6.sub (List.sublist_append_right r5 _)
  have q6 := y_key hs6 3 HW3.out
  have HS6 := Lib.hid hs6
  clear q5 hr5 hs6 HC1 HC2 HC3 HC4 HW3
  go_wp2_with fail
  go_at_call 20
  refine (q6).mono ?_
  rintro e w7 ⟨rfl, hb⟩
  have hs7 := HS6.out.under hb
  have k3 : (smP 1 (wordN 2) ((((FSt.new 2).next 1 (wordN 2) 7).next 1 (wordN 2) 7).next 1 (wordN 2) 7) [(3, 1)] [(1, 1)] smK3 3).key 3 = 7 := rfl
  have k4 : ((smP 1 (wordN 2) ((((FSt.new 2).next 1 (wordN 2) 7).next 1 (wordN 2) 7).next 1 (wordN 2) 7) [(3, 1)] [(1, 1)] smK3 3).ks 3).isSome = true := rfl
  rw [k3, k4]
  clear k3 k4 q6 HS6
  have hb8 : Below w7.heap.size w7 (w7.alloc (.cells (ints [2]).toArray 3)) := (Below.refl _ _).alloc (Nat.le_refl _) _
  have hs8 := hs7.under hb8
  have i1 := ints_calls v3 _ _ _ _ ((hs8.perm (perm2 r4 r3 F)).reads HR3.out) (reads_lit w7 [2] 3 (by decide))
  rw [decide_eq_true (show ([2] : List Int) = [2] from rfl)] at i1
  have HS8 := Lib.hid hs8
  clear hs7 hs8 hb8
  go_wp2_with fail
  go_at_call 15
  refine (i1).mono ?_
  rintro e w9 ⟨rfl, m1, rfl⟩
  have hs9 := HS8.out.under (show Below _ _ ((w7.alloc (.cells (ints [2]).toArray 3)).drewN m1) from ⟨rfl, rfl, rfl, Nat.le_refl _, fun _ _ => rfl⟩)
  clear i1 HS8
  generalize ((w7.alloc (.cells (ints [2]).toArray 3)).drewN m1) = w9 at *
  have hb10 : Below w9.heap.size w9 (w9.alloc (.cells (ints [2]).toArray 3)) := (Below.refl _ _).alloc (Nat.le_refl _) _
  have hs10 := hs9.under hb10
  have i2 := ints_calls v4 _ _ _ _ (hs10.reads HR4.out) (reads_lit w9 [2] 3 (by decide))
  rw [decide_eq_true (show ([2] : List Int) = [2] from rfl)] at i2
  have HS10 := Lib.hid hs10
  clear hs9 hs10 hb10
  go_wp2_with fail
  go_at_call 15
  refine (i2).mono ?_
  rintro e w11 ⟨rfl, m2, rfl⟩
  have hs11 := HS10.out.under (show Below _ _ ((w9.alloc (.cells (ints [2]).toArray 3)).drewN m2) from ⟨rfl, rfl, rfl, Nat.le_refl _, fun _ _ => rfl⟩)
  clear i2 HS10
  generalize ((w9.alloc (.cells (ints [2]).toArray 3)).drewN m2) = w11 at *
  have q7 := y_weight hs11 (by omega)
  rw [sm_wt] at q7
  go_wp2_with fail
  go_at_call 14
  refine (q7).mono ?_
  rintro e w12 ⟨rfl, hb12⟩
  have hs12 := hs11.under hb12
  have q8 := y_often hs12 7
  have e8 : (smP 1 (wordN 2) ((((FSt.new 2).next 1 (wordN 2) 7).next 1 (wordN 2) 7).next 1 (wordN 2) 7) [(3, 1)] [(1, 1)] smK3 3).oft 7 = 3 := HOF.out
  rw [e8] at q8
  clear q7 hs11 e8 HOF
  go_wp2_with fail
  go_at_call 19
  refine (q8).mono ?_
  rintro e w13 ⟨rfl, hb13⟩
  have hs13 := hs12.under hb13
  have q9 := y_row hs13 (by omega) 1
  clear q8 hs12 hs13
  go_wp2_with fail
  go_at_call 13
  refine (q9).mono ?_
  rintro e w14 ⟨v9, r9, rfl, hr9, hs14⟩
  replace hr9 : Row 3 1 v9 [(1 : Int)].length (ints [1]) r9 := hr9
  have hb15 : Below w14.heap.size w14 (w14.alloc (.cells (ints [1]).toArray 3)) := (Below.refl _ _).alloc (Nat.le_refl _) _
  have hs15 := hs14.under hb15
  have i3 := ints_calls v9 _ _ _ _ (hs15.reads hr9) (reads_lit w14 [1] 3 (by decide))
  rw [decide_eq_true (show ([1] : List Int) = [1] from rfl)] at i3
  have HS15 := Lib.hid hs15
  clear hs14 hs15 hb15 hr9 q9
  go_wp2_with fail
  go_at_call 15
  refine (i3).mono ?_
  rintro e w16 ⟨rfl, m3, rfl⟩
  go_wp2_with fail
  go_ret
  have hs16 := HS15.out.under (show Below _ _ ((w14.alloc (.cells (ints [1]).toArray 3)).drewN m3) from ⟨rfl, rfl, rfl, Nat.le_refl _, fun _ _ => rfl⟩)
  obtain ⟨r, -, hO⟩ := hs16
  exact ⟨rfl, hO.drop_.drop_.drop_.drop_⟩
theorem small_calls (w : World) : Calls Try.prog 9 #[] w fun e w' => e = .returned (.bool true) ∧ Below w.heap.size w w' :=
  (small_own (Owned.nil w)).mono (fun _ _ ⟨he, hO⟩ => ⟨he, hO.below⟩)
end
end Go.Proofs.Ytnhdjpeadhcajaa
