/- Merged texts: Layer 11: a node goes; the first nodes of a row go to probation. Layer 11: the first nodes of the third row go to probation. -/
import Derived.Test.YtnhdjpeadhcajaaK35
import Derived.Deep.LoopGhost
namespace Go.Proofs.Ytnhdjpeadhcajaa
open Go.RowKit Go.Sep DqPure
set_option maxRecDepth 100000
section
variable {bx n : Nat} {st : Sts} {r F : Own} {w0 w : World} {k : Nat} {z : Int}
theorem d3_front (hz : (k : Int) = z) (hk : k < 3) (hD : DqAt bx 3 n st r) (hO : Owned w0 w (r ++ F)) : Calls Try.prog 72 #[.pointer (some ⟨bx, 0, none⟩), .int .i64 z] w fun e w' => e = .returned (.int .i64 (headI (st k))) ∧ Below w.heap.size w w' := by
  subst hz
  exact dq_front_some hD hk hO
theorem d3_back (hz : (k : Int) = z) (hk : k < 3) (hD : DqAt bx 3 n st r) (hO : Owned w0 w (r ++ F)) : Calls Try.prog 73 #[.pointer (some ⟨bx, 0, none⟩), .int .i64 z] w fun e w' => e = .returned (.int .i64 (lastI (st k))) ∧ Below w.heap.size w w' := by
  subst hz
  exact dq_back_some hD hk hO
theorem d3_len (hz : (k : Int) = z) (hk : k < 3) (hD : DqAt bx 3 n st r) (hO : Owned w0 w (r ++ F)) : Calls Try.prog 74 #[.pointer (some ⟨bx, 0, none⟩), .int .i64 z] w fun e w' => e = .returned (.int .i64 ((st k).length : Int)) ∧ Below w.heap.size w w' := by
  subst hz
  exact dq_len_some hD hk hO
theorem d3_weight (hz : (k : Int) = z) (hk : k < 3) (hD : DqAt bx 3 n st r) (hO : Owned w0 w (r ++ F)) : Calls Try.prog 34 #[.pointer (some ⟨bx, 0, none⟩), .int .i64 z] w fun e w' => e = .returned (.int .i64 (sumW (st k))) ∧ Below w.heap.size w w' := by
  subst hz
  exact dq_weight_some hD hk hO
end
theorem inL_rem (x id : Int) (l : List (Int × Int)) : inL x (remL id l) = if x = id then false else inL x l := by
  rw [Bool.eq_iff_iff, in_iff]
  by_cases h : x = id
  · rw [if_pos h]
    constructor
    · rintro ⟨p, hp, e⟩
      have := (List.mem_filter.1 hp).2
      simp at this
      omega
    · intro h
      cases h
  · rw [if_neg h, in_iff]
    constructor
    · rintro ⟨p, hp, e⟩
      exact ⟨p, (List.mem_filter.1 hp).1, e⟩
    · rintro ⟨p, hp, e⟩
      exact ⟨p, List.mem_filter.2 ⟨hp, by simp; omega⟩, e⟩
theorem inL_append (x : Int) (l m : List (Int × Int)) : inL x (l ++ m) = (inL x l || inL x m) := List.any_append
theorem inL_one (x id z : Int) : inL x [(id, z)] = decide (id = x) := by
  unfold inL
  simp [List.any, BEq.beq]
theorem inL_cons (x : Int) (p : Int × Int) (l : List (Int × Int)) : inL x (p :: l) = (decide (p.1 = x) || inL x l) := by
  show (_ || _) = _
  rfl
theorem inL_pass (x most : Int) : ∀ a p : List (Int × Int), (inL x (passL most a p).1 || inL x (passL most a p).2) = (inL x a || inL x p)
  | [], p => rfl
  | y :: t, p => by
    rw [passL]
    by_cases h : most < sumW (y :: t)
    · rw [if_pos h, inL_pass x most t (p ++ [y]), inL_append, inL_cons x y t, inL_cons x y []]
      cases inL x t <;> cases inL x p <;> cases decide (y.1 = x) <;> rfl
    · rw [if_neg h]
theorem has_drop (P : PSt) (id x : Int) : (P.drop id).has x = if x = id then false else P.has x := by
  show (inL x (remL id P.a) || (inL x (remL id P.b) || inL x (remL id P.c))) = _
  rw [inL_rem, inL_rem, inL_rem]
  unfold PSt.has
  split <;> rfl
theorem has_passA (P : PSt) (x : Int) : P.passA.has x = P.has x := by
  have h := inL_pass x P.qw P.a P.b
  show (inL x (passL P.qw P.a P.b).1 || (inL x (passL P.qw P.a P.b).2 || inL x P.c)) = _
  rw [← Bool.or_assoc, h, Bool.or_assoc]
  rfl
theorem has_passC (P : PSt) (x : Int) : P.passC.has x = P.has x := by
  have h := inL_pass x P.pq P.c P.b
  show (inL x P.a || (inL x (passL P.pq P.c P.b).2 || inL x (passL P.pq P.c P.b).1)) = (inL x P.a || (inL x P.b || inL x P.c))
  rw [Bool.or_comm (inL x (passL P.pq P.c P.b).2), h, Bool.or_comm (inL x P.c)]
theorem PolInv.pq {k n : Nat} {P : PSt} (h : PolInv k n P) : 0 ≤ P.qw ∧ 0 ≤ P.pq ∧ P.pq ≤ 4611686018427387903 ∧ P.qw ≤ 4611686018427387903 := by
  obtain ⟨h1, h2⟩ := h.cap
  obtain ⟨h3, h4⟩ := h.qw
  unfold PSt.pq pr
  unfold lo at h3
  unfold hi at h4
  split at h3 <;> split at h4 <;> omega
section
variable {g gf gd gm k n : Nat} {P : PSt} {rf rd r F : Own} {o : Obj} {w0 w : World}
theorem PolInv.drop (h : PolInv k n P) (id : Int) : PolInv k n (P.drop id) := by
  refine ⟨h.cap, h.per, h.qw, h.age, h.n, fun x hx => ?_⟩
  rw [has_drop]
  show (updK P.ks id none x).isSome = _
  by_cases e : x = id
  · rw [if_pos e, e, updK_same]
    rfl
  · rw [if_neg e, updK_ne _ _ e]
    exact h.ks x hx
theorem PolInv.passA (h : PolInv k n P) : PolInv k n P.passA := ⟨h.cap, h.per, h.qw, h.age, h.n, fun x hx => (h.ks x hx).trans (has_passA P x).symm⟩
theorem PolInv.passC (h : PolInv k n P) : PolInv k n P.passC := ⟨h.cap, h.per, h.qw, h.age, h.n, fun x hx => (h.ks x hx).trans (has_passC P x).symm⟩
/-- behind a call the policy stands at P' -/
def Stands (w0 : World) (F : Own) (g k : Nat) (P' : PSt) (w' : World) : Prop := ∃ r', PolAt g k P' r' ∧ Owned w0 w' (r' ++ F)
set_option maxHeartbeats 1600000 in
theorem p_drop (h : PolIn gf gd k n P rf rd o) (id : Int) (hid : wfk id) (hk : k ≤ 1000000) (hO : Owned w0 w (polB g gf gd gm P o ++ (rf ++ (rd ++ F)))) :
    Calls Try.prog 32 #[.pointer (some ⟨g, 0, none⟩), .int .i64 id] w fun e w' => e = .returned (.tuple #[]) ∧ Stands w0 F g k (P.drop id) w' := by
  have c3 : w.cell? ⟨g, 3, none⟩ = some (.pointer (some ⟨gd, 0, none⟩)) := (polB_cell hO 3).trans rfl
  have CU := Lib.hid (d3_unlink (id := id) hid (Nat.le_trans h.inv.n hk) (show DqAt gd 3 n (st3 P.a P.b P.c) rd from h.dq) hO.third)
  have H := Lib.hid h
  have HX := Lib.hid hid
  clear h hid hO
  go_enter Try.func32, Try.ntmps32
  go_wp2_with fail
  go_at_call 58
  refine (CU.out).mono ?_
  rintro e w1 ⟨⟨z, rfl⟩, rd1, hd1, hO1⟩
  have hO2 := hO1.back3
  have c4 : w1.cell? ⟨g, 4, none⟩ = some (.map (some gm)) := (polB_cell hO2 4).trans rfl
  have HB := Lib.hid (polB_look (g := g) (gf := gf) (gd := gd) (gm := gm) (P := P) (o := o) |>.resolve_right (polB_ne hO2))
  have HS := Lib.hid (polB_setmap hO2)
  have HD := Lib.hid hd1
  have HO2 := Lib.hid hO2
  clear hO2 hO1 hd1
  go_wp2_with (at_delete; refine wpk_delete rfl _ _ rfl rfl rfl H.out.map HO2.out HB.out HX.out ?_; intro w2 o2 hM2 hO2; have HM2 := Lib.hid hM2; have HO3 := Lib.hid hO2; clear hM2 hO2)
  go_end0
  have hO3 := HO3.out
  rw [HS.out] at hO3
  exact ⟨rfl, PolIn.shut (P := P.drop id) ⟨H.out.fil, HD.out, HM2.out, H.out.inv.drop id⟩ hO3⟩
set_option maxHeartbeats 3200000 in
theorem p_passA_ {m : Int} {a b c : List (Int × Int)} (hd : DqAt gd 3 n (st3 a b c) rd) (hn : n ≤ 1000000) (hm : 0 ≤ m) (hO : Owned w0 w (polB g gf gd gm P o ++ (rf ++ (rd ++ F)))) :
    Calls Try.prog 51 #[.pointer (some ⟨g, 0, none⟩), .int .i64 0, .int .i64 m] w fun e w' => e = .returned (.tuple #[]) ∧ ∃ rd', DqAt gd 3 n (st3 (passL m a b).1 (passL m a b).2 c) rd' ∧ Owned w0 w' (polB g gf gd gm P o ++ (rf ++ (rd' ++ F))) := by
  have cw := fun (a b : List (Int × Int)) (rd : Own) (hd : DqAt gd 3 n (st3 a b c) rd) (W : World) (hW : Owned w0 W (polB g gf gd gm P o ++ (rf ++ (rd ++ F)))) => d3_weight (k := 0) (z := 0) rfl (by omega) hd hW.third
  have cf := fun (x : Int × Int) (a b : List (Int × Int)) (rd : Own) (hd : DqAt gd 3 n (st3 (x :: a) b c) rd) (W : World) (hW : Owned w0 W (polB g gf gd gm P o ++ (rf ++ (rd ++ F)))) => d3_front (k := 0) (z := 0) rfl (by omega) hd hW.third
  have cm := fun (x : Int × Int) (a b : List (Int × Int)) (rd : Own) (hd : DqAt gd 3 n (st3 (x :: a) b c) rd) (W : World) (hW : Owned w0 W (polB g gf gd gm P o ++ (rf ++ (rd ++ F)))) => d3_moveAB hn hd hW.third
  have hc := fun (rd : Own) (W : World) (hW : Owned w0 W (polB g gf gd gm P o ++ (rf ++ (rd ++ F)))) => (polB_cell hW 3).trans (show (polC gf gd gm P)[3]? = some (.pointer (some ⟨gd, 0, none⟩)) from rfl)
  have CW := Lib.hid cw
  have CF := Lib.hid cf
  have CM := Lib.hid cm
  have HC := Lib.hid hc
  have HD := Lib.hid hd
  have HO := Lib.hid hO
  clear cw cf cm hc hd hO
  go_enter Try.func51, Try.ntmps51
  go_wp2
  go_loopg [] a.length (fun q wr => ∃ a' b' rd', a'.length = q ∧ Hid (passL m a' b' = passL m a b) ∧ Hid (DqAt gd 3 n (st3 a' b' c) rd') ∧ Hid (Owned w0 wr (polB g gf gd gm P o ++ (rf ++ (rd' ++ F)))))
  case atStart => exact ⟨a, b, rd, rfl, Lib.hid rfl, HD, HO⟩
  case round =>
    obtain ⟨a', b', rd', rfl, hp, hd, hO⟩ := hrel
    have c3 := HC.out _ _ hO.out
    have ct := CW.out _ _ _ hd.out _ hO.out
    rw [show st3 a' b' c 0 = a' from rfl] at ct
    have hS : 0 ≤ sumW a' ∧ sumW a' ≤ (n : Int) * 2147483648 := hd.out.sum (k := 0) (by omega)
    by_cases hlt : m < sumW a'
    · cases a' with
      | nil =>
        exfalso
        have : sumW [] = 0 := rfl
        omega
      | cons x t =>
        have HP2 := Lib.hid (show passL m t (b' ++ [x]) = passL m a b by have := hp.out; rw [passL, if_pos hlt] at this; exact this)
        have hx : headI (x :: t) = x.1 := rfl
        have cf := CF.out _ _ _ _ hd.out
        have cm := CM.out _ _ _ _ hd.out
        rw [show headI (st3 (x :: t) b' c 0) = x.1 from rfl] at cf
        have CF2 := Lib.hid cf
        have CM2 := Lib.hid cm
        clear hS cf cm hx
        generalize sumW (x :: t) = Z at *
        obtain ⟨id, z⟩ := x
        go_wp2_with fail
        go_at_call 34
        refine (ct).mono ?_
        rintro e w1 ⟨rfl, hb1⟩
        have c31 := HC.out _ _ (hO.out.under hb1)
        have HO1 := Lib.hid (hO.out.under hb1)
        clear ct c3
        go_wp2_with fail
        go_region_with (first
          | (go_at_call 72; (with_reducible refine (CF2.out _ HO1.out.drew).mono ?_); rintro e w2 ⟨rfl, hb2⟩; have HO2 := Lib.hid (HO1.out.drew.under hb2); have c32 := HC.out _ _ HO2.out)
          | (go_at_call 57; (with_reducible refine (CM2.out _ HO2.out).mono ?_); rintro e w3 ⟨⟨zz, rfl⟩, rd2, hd2, hO3⟩; have HO3 := Lib.hid hO3.back3; have HD2 := Lib.hid hd2; clear hO3 hd2))
        all_goals (go_wp2_with fail)
        all_goals
          go_roundg t.length
          case measure => simp
          case rel => exact ⟨t, _, rd2, rfl, HP2, HD2, HO3⟩
    · have hpe : passL m a' b' = (a', b') := by
        cases a' with
        | nil => rfl
        | cons x t => rw [passL, if_neg hlt]
      have HP := Lib.hid (hpe.symm.trans hp.out)
      clear hpe hp
      generalize hz : sumW a' = Z at *
      clear hz
      go_wp2_with fail
      go_at_call 34
      refine (ct).mono ?_
      rintro e w1 ⟨rfl, hb1⟩
      have HO1 := Lib.hid (hO.out.under hb1)
      go_wp2_with fail
      go_end0
      refine ⟨rfl, rd', ?_, HO1.out⟩
      rw [← HP.out]
      exact hd.out
end
end Go.Proofs.Ytnhdjpeadhcajaa
namespace Go.Proofs.Ytnhdjpeadhcajaa
open Go.RowKit Go.Sep DqPure
set_option maxRecDepth 100000
section
variable {g gf gd gm k n : Nat} {P : PSt} {rf rd r F : Own} {o : Obj} {w0 w : World}
set_option maxHeartbeats 3200000 in
theorem p_passC_ {m : Int} {a b c : List (Int × Int)} (hd : DqAt gd 3 n (st3 a b c) rd) (hn : n ≤ 1000000) (hm : 0 ≤ m) (hO : Owned w0 w (polB g gf gd gm P o ++ (rf ++ (rd ++ F)))) :
    Calls Try.prog 51 #[.pointer (some ⟨g, 0, none⟩), .int .i64 2, .int .i64 m] w fun e w' => e = .returned (.tuple #[]) ∧ ∃ rd', DqAt gd 3 n (st3 a (passL m c b).2 (passL m c b).1) rd' ∧ Owned w0 w' (polB g gf gd gm P o ++ (rf ++ (rd' ++ F))) := by
  have cw := fun (c b : List (Int × Int)) (rd : Own) (hd : DqAt gd 3 n (st3 a b c) rd) (W : World) (hW : Owned w0 W (polB g gf gd gm P o ++ (rf ++ (rd ++ F)))) => d3_weight (k := 2) (z := 2) rfl (by omega) hd hW.third
  have cf := fun (x : Int × Int) (c b : List (Int × Int)) (rd : Own) (hd : DqAt gd 3 n (st3 a b (x :: c)) rd) (W : World) (hW : Owned w0 W (polB g gf gd gm P o ++ (rf ++ (rd ++ F)))) => d3_front (k := 2) (z := 2) rfl (by omega) hd hW.third
  have cm := fun (x : Int × Int) (c b : List (Int × Int)) (rd : Own) (hd : DqAt gd 3 n (st3 a b (x :: c)) rd) (W : World) (hW : Owned w0 W (polB g gf gd gm P o ++ (rf ++ (rd ++ F)))) => d3_moveCB hn hd hW.third
  have hc := fun (rd : Own) (W : World) (hW : Owned w0 W (polB g gf gd gm P o ++ (rf ++ (rd ++ F)))) => (polB_cell hW 3).trans (show (polC gf gd gm P)[3]? = some (.pointer (some ⟨gd, 0, none⟩)) from rfl)
  have CW := Lib.hid cw
  have CF := Lib.hid cf
  have CM := Lib.hid cm
  have HC := Lib.hid hc
  have HD := Lib.hid hd
  have HO := Lib.hid hO
  clear cw cf cm hc hd hO
  go_enter Try.func51, Try.ntmps51
  go_wp2
  go_loopg [] c.length (fun q wr => ∃ a' b' rd', a'.length = q ∧ Hid (passL m a' b' = passL m c b) ∧ Hid (DqAt gd 3 n (st3 a b' a') rd') ∧ Hid (Owned w0 wr (polB g gf gd gm P o ++ (rf ++ (rd' ++ F)))))
  case atStart => exact ⟨c, b, rd, rfl, Lib.hid rfl, HD, HO⟩
  case round =>
    obtain ⟨a', b', rd', rfl, hp, hd, hO⟩ := hrel
    have c3 := HC.out _ _ hO.out
    have ct := CW.out _ _ _ hd.out _ hO.out
    rw [show st3 a b' a' 2 = a' from rfl] at ct
    have hS : 0 ≤ sumW a' ∧ sumW a' ≤ (n : Int) * 2147483648 := hd.out.sum (k := 2) (by omega)
    by_cases hlt : m < sumW a'
    · cases a' with
      | nil =>
        exfalso
        have : sumW [] = 0 := rfl
        omega
      | cons x t =>
        have HP2 := Lib.hid (show passL m t (b' ++ [x]) = passL m c b by have := hp.out; rw [passL, if_pos hlt] at this; exact this)
        have hx : headI (x :: t) = x.1 := rfl
        have cf := CF.out _ _ _ _ hd.out
        have cm := CM.out _ _ _ _ hd.out
        rw [show headI (st3 a b' (x :: t) 2) = x.1 from rfl] at cf
        have CF2 := Lib.hid cf
        have CM2 := Lib.hid cm
        clear hS cf cm hx
        generalize sumW (x :: t) = Z at *
        obtain ⟨id, z⟩ := x
        go_wp2_with fail
        go_at_call 34
        refine (ct).mono ?_
        rintro e w1 ⟨rfl, hb1⟩
        have c31 := HC.out _ _ (hO.out.under hb1)
        have HO1 := Lib.hid (hO.out.under hb1)
        clear ct c3
        go_wp2_with fail
        go_region_with (first
          | (go_at_call 72; (with_reducible refine (CF2.out _ HO1.out.drew).mono ?_); rintro e w2 ⟨rfl, hb2⟩; have HO2 := Lib.hid (HO1.out.drew.under hb2); have c32 := HC.out _ _ HO2.out)
          | (go_at_call 57; (with_reducible refine (CM2.out _ HO2.out).mono ?_); rintro e w3 ⟨⟨zz, rfl⟩, rd2, hd2, hO3⟩; have HO3 := Lib.hid hO3.back3; have HD2 := Lib.hid hd2; clear hO3 hd2))
        all_goals (go_wp2_with fail)
        all_goals
          go_roundg t.length
          case measure => simp
          case rel => exact ⟨t, _, rd2, rfl, HP2, HD2, HO3⟩
    · have hpe : passL m a' b' = (a', b') := by
        cases a' with
        | nil => rfl
        | cons x t => rw [passL, if_neg hlt]
      have HP := Lib.hid (hpe.symm.trans hp.out)
      clear hpe hp
      generalize hz : sumW a' = Z at *
      clear hz
      go_wp2_with fail
      go_at_call 34
      refine (ct).mono ?_
      rintro e w1 ⟨rfl, hb1⟩
      have HO1 := Lib.hid (hO.out.under hb1)
      go_wp2_with fail
      go_end0
      refine ⟨rfl, rd', ?_, HO1.out⟩
      rw [← HP.out]
      exact hd.out
theorem p_passA (h : PolIn gf gd k n P rf rd o) (hk : k ≤ 1000000) (hO : Owned w0 w (polB g gf gd gm P o ++ (rf ++ (rd ++ F)))) :
    Calls Try.prog 51 #[.pointer (some ⟨g, 0, none⟩), .int .i64 0, .int .i64 P.qw] w fun e w' => e = .returned (.tuple #[]) ∧ ∃ rd', PolIn gf gd k n P.passA rf rd' o ∧ Owned w0 w' (polB g gf gd gm P.passA o ++ (rf ++ (rd' ++ F))) := by
  refine (p_passA_ (m := P.qw) (show DqAt gd 3 n (st3 P.a P.b P.c) rd from h.dq) (Nat.le_trans h.inv.n hk) h.inv.pq.1 hO).mono ?_
  rintro e w' ⟨rfl, rd', hd, hO'⟩
  exact ⟨rfl, rd', ⟨h.fil, hd, h.map, h.inv.passA⟩, hO'⟩
theorem p_passC (h : PolIn gf gd k n P rf rd o) (hk : k ≤ 1000000) (hO : Owned w0 w (polB g gf gd gm P o ++ (rf ++ (rd ++ F)))) :
    Calls Try.prog 51 #[.pointer (some ⟨g, 0, none⟩), .int .i64 2, .int .i64 P.pq] w fun e w' => e = .returned (.tuple #[]) ∧ ∃ rd', PolIn gf gd k n P.passC rf rd' o ∧ Owned w0 w' (polB g gf gd gm P.passC o ++ (rf ++ (rd' ++ F))) := by
  refine (p_passC_ (m := P.pq) (show DqAt gd 3 n (st3 P.a P.b P.c) rd from h.dq) (Nat.le_trans h.inv.n hk) h.inv.pq.2.1 hO).mono ?_
  rintro e w' ⟨rfl, rd', hd, hO'⟩
  exact ⟨rfl, rd', ⟨h.fil, hd, h.map, h.inv.passC⟩, hO'⟩
end
end Go.Proofs.Ytnhdjpeadhcajaa
