/- Merged texts: Layer 11: a policy as an object in memory; what only reads it. Layer 11: contracts of what only reads a policy. -/
import Derived.Test.YtnhdjpeadhcajaaK34
import Derived.Test.YtnhdjpeadhcajaaK15
import Derived.Test.YtnhdjpeadhcajaaK13
import Derived.Deep.MidRow
namespace Go.Proofs.Ytnhdjpeadhcajaa
open Go.RowKit Go.Sep DqPure
set_option maxRecDepth 100000
def polC (gf gd gm : Nat) (P : PSt) : Array Value :=
  #[.int .i64 P.cap, .int .i64 P.per, .pointer (some ⟨gf, 0, none⟩), .pointer (some ⟨gd, 0, none⟩), .map (some gm), .int .i64 P.cap, .int .i64 P.qw, .int .i64 P.pq, .int .i64 P.ch, .int .i64 P.cm, .int .i64 P.cl, .int .i64 P.cs]
def polB (g gf gd gm : Nat) (P : PSt) (o : Obj) : Own := [(g, .cells (polC gf gd gm P) 59 (0, 0)), (gm, o)]
/-- is a node in a row? -/
def PSt.has (P : PSt) (id : Int) : Bool := inL id P.a || (inL id P.b || inL id P.c)
structure PolInv (k n : Nat) (P : PSt) : Prop where
  cap : 0 ≤ P.cap ∧ P.cap ≤ 4611686018427387903
  per : 10 ≤ P.per ∧ P.per ≤ 655360
  qw : lo P.cap ≤ P.qw ∧ P.qw ≤ hi P.cap
  age : P.fl.A ≤ k
  n : n ≤ k
  ks : ∀ x, wfk x → (P.ks x).isSome = P.has x
structure PolIn (gf gd k n : Nat) (P : PSt) (rf rd : Own) (o : Obj) : Prop where
  fil : FilterAt gf P.sd P.wd P.fl rf
  dq : DqAt gd 3 n P.st rd
  map : KMap k P.ks o
  inv : PolInv k n P
/-- a policy in block g that did at most k events, and stands at P -/
def PolAt (g k : Nat) (P : PSt) (r : Own) : Prop := ∃ gf gd gm rf rd o n, r = polB g gf gd gm P o ++ (rf ++ rd) ∧ PolIn gf gd k n P rf rd o
section
variable {g gf gd gm k n : Nat} {P : PSt} {rf rd r F : Own} {o : Obj} {w0 w : World}
theorem PolAt.open_ (h : PolAt g k P r) (hO : Owned w0 w (r ++ F)) : ∃ gf gd gm rf rd o n, r = polB g gf gd gm P o ++ (rf ++ rd) ∧ PolIn gf gd k n P rf rd o ∧ Owned w0 w (polB g gf gd gm P o ++ (rf ++ (rd ++ F))) := by
  obtain ⟨gf, gd, gm, rf, rd, o, n, rfl, h⟩ := h
  rw [List.append_assoc, List.append_assoc] at hO
  exact ⟨gf, gd, gm, rf, rd, o, n, rfl, h, hO⟩
theorem PolIn.shut (h : PolIn gf gd k n P rf rd o) (hO : Owned w0 w (polB g gf gd gm P o ++ (rf ++ (rd ++ F)))) : ∃ r, PolAt g k P r ∧ Owned w0 w (r ++ F) := by
  refine ⟨polB g gf gd gm P o ++ (rf ++ rd), ⟨gf, gd, gm, rf, rd, o, n, rfl, h⟩, ?_⟩
  rw [List.append_assoc, List.append_assoc]
  exact hO
theorem polB_cell (h : Owned w0 w (polB g gf gd gm P o ++ F)) (i : Nat) : w.cell? ⟨g, i, none⟩ = (polC gf gd gm P)[i]? := Owned.cell h i
theorem polB_free (h : Owned w0 w (polB g gf gd gm P o ++ F)) (i : Nat) : w.frozen? ⟨g, i, none⟩ = false := Owned.frozen h i
theorem polB_map (h : Owned w0 w (polB g gf gd gm P o ++ F)) : w.heap[gm]? = some o := Owned.head (Owned.tail h)
theorem polB_look : lookB (polB g gf gd gm P o) gm = some o ∨ g = gm := by
  by_cases h : g = gm
  · exact .inr h
  · left
    unfold polB
    rw [look_cons_ne h, look_cons_self]
theorem polB_ne (h : Owned w0 w (polB g gf gd gm P o ++ F)) : g ≠ gm := Owned.ne h
theorem polB_setmap (h : Owned w0 w (polB g gf gd gm P o ++ F)) (o' : Obj) : setBk (polB g gf gd gm P o) gm o' = polB g gf gd gm P o' := by
  unfold polB
  rw [setBk, if_neg (polB_ne h), setBk, if_pos rfl]
theorem PolIn.key (h : PolIn gf gd k n P rf rd o) (x : Int) (hO : Owned w0 w (polB g gf gd gm P o ++ F)) (hx : wfk x) :
    (Instr.lookup 55 (.map (some gm)) (.int .i64 x) true).run Try.prog w = .ok (.tuple #[.int .i64 (P.key x), .bool (P.ks x).isSome]) w := h.map.look_ok (polB_map hO) hx
theorem PolIn.key1 (h : PolIn gf gd k n P rf rd o) (x : Int) (hO : Owned w0 w (polB g gf gd gm P o ++ F)) (hx : wfk x) :
    (Instr.lookup 55 (.map (some gm)) (.int .i64 x) false).run Try.prog w = .ok (.int .i64 (P.key x)) w := h.map.look (polB_map hO) hx
theorem totw3 (a b c : List (Int × Int)) : totw (st3 a b c) 3 = sumW a + sumW b + sumW c := by
  show ((0 + sumW a) + sumW b) + sumW c = _
  omega
theorem polB_rangeq (h : Owned w0 w (polB g gf gd gm P o ++ F)) : w.rangeAt g 5 [.int .i64 P.cap, .int .i64 P.qw, .int .i64 P.pq] := by
  intro j v hv
  rw [polB_cell h]
  match j, hv with
  | 0, hv => exact hv
  | 1, hv => exact hv
  | 2, hv => exact hv
  | j + 3, hv => simp at hv
theorem polB_rangec (h : Owned w0 w (polB g gf gd gm P o ++ F)) : w.rangeAt g 8 [.int .i64 P.ch, .int .i64 P.cm, .int .i64 P.cl, .int .i64 P.cs] := by
  intro j v hv
  rw [polB_cell h]
  match j, hv with
  | 0, hv => exact hv
  | 1, hv => exact hv
  | 2, hv => exact hv
  | 3, hv => exact hv
  | j + 4, hv => simp at hv
end
end Go.Proofs.Ytnhdjpeadhcajaa
namespace Go.Proofs.Ytnhdjpeadhcajaa
open Go.RowKit Go.Sep DqPure
set_option maxRecDepth 100000
section
variable {g gf gd gm k n : Nat} {P : PSt} {rf rd r F : Own} {o : Obj} {w0 w : World}
set_option maxHeartbeats 1600000 in
theorem p_weight (h : PolIn gf gd k n P rf rd o) (hn : k ≤ 1000000) (hO : Owned w0 w (polB g gf gd gm P o ++ (rf ++ (rd ++ F)))) :
    Calls Try.prog 14 #[.pointer (some ⟨g, 0, none⟩)] w fun e w' => e = .returned (.int .i64 P.wt) ∧ Below w.heap.size w w' := by
  have cw := fun (i : Nat) (hi : i < 3) (W : World) (hW : Owned w0 W (polB g gf gd gm P o ++ (rf ++ (rd ++ F)))) => dq_weight_some (k := i) h.dq hi hW.third
  have hc := fun (W : World) (hW : Owned w0 W (polB g gf gd gm P o ++ (rf ++ (rd ++ F)))) => (polB_cell hW 3).trans (show (polC gf gd gm P)[3]? = some (.pointer (some ⟨gd, 0, none⟩)) from rfl)
  have hb := h.dq.tot_bd
  have hnk := h.inv.n
  obtain ⟨st, hst⟩ : ∃ st, P.st = st := ⟨_, rfl⟩
  have ht : P.wt = totw st 3 := by rw [← hst]; exact (totw3 _ _ _).symm
  rw [hst] at cw hb
  rw [ht]
  have CW := Lib.hid cw
  have HC := Lib.hid hc
  have HB := Lib.hid hb
  clear cw hc hb hst ht h
  have HO := Lib.hid hO
  clear hO
  go_enter Try.func14, Try.ntmps14
  go_wp2
  go_loopw [3, 4, 5, 6, 7, 8, 9, 10, 11, 12, 13, 14, 15, 16] (fun s _ x _ _ _ _ _ _ _ _ _ _ _ wr => ∃ i : Nat, i ≤ 3 ∧ s = .int .i64 (totw st i) ∧ x = .int .i64 (i : Int) ∧ Below w.heap.size w wr) (fun _ _ x _ _ _ _ _ _ _ _ _ _ _ _ => 3 - (intOf x).toNat)
  case atStart => exact ⟨0, by omega, rfl, rfl, Below.refl _ _⟩
  case round =>
    obtain ⟨i, hi, rfl, rfl, hb⟩ := hrel
    by_cases hlt : i < 3
    · have bd : ∀ j : Nat, j ≤ 3 → 0 ≤ totw st j ∧ totw st j ≤ 6442450944000000 := fun j hj => by
        obtain ⟨q1, q2, -⟩ := HB.out j hj
        have q3 : (j : Int) * ((n : Int) * 2147483648) ≤ 3 * ((n : Int) * 2147483648) := Int.mul_le_mul_of_nonneg_right (by omega) (by omega)
        omega
      have b1 := bd i hi
      have b2 := bd (i + 1) hlt
      clear bd
      have e1 : totw st (i + 1) = totw st i + sumW (st i) := rfl
      rw [e1] at b2
      have c3 := HC.out _ (HO.out.under hb)
      have ct := CW.out i hlt _ (HO.out.under hb)
      have HE := Lib.hid e1
      have d1 : decide ((i : Int) < 3) = true := by simp; omega
      clear e1
      generalize totw st i = T at *
      generalize sumW (st i) = Z at *
      go_wp2_with fail
      go_at_call 34
      refine (ct).mono ?_
      rintro e w1 ⟨rfl, hb1⟩
      go_wp2_with fail
      go_roundw
      case rel => exact ⟨i + 1, hlt, by rw [HE.out], by go_num, hb.trans (hb1.mono hb.size)⟩
      case measure => simp [intOf]; omega
    · obtain rfl : i = 3 := by omega
      go_wp2
      go_ret
      exact ⟨rfl, hb⟩
set_option maxHeartbeats 800000 in
theorem p_quota (hO : Owned w0 w (polB g gf gd gm P o ++ F)) :
    Calls Try.prog 17 #[.pointer (some ⟨g, 0, none⟩)] w fun e w' => e = .returned (.agg (quotaC P.cap P.qw P.pq)) ∧ Below w.heap.size w w' := by
  have hr : (w.alloc (.cells (quotaC 0 0 0) 42)).rangeAt g _ _ := polB_rangeq (hO.alloc_ (.cells (quotaC 0 0 0) 42))
  clear hO
  generalize P.cap = a at *
  generalize P.qw = b at *
  generalize P.pq = c at *
  have HO := Lib.hid ((Owned.nil w).alloc (.cells (quotaC 0 0 0) 42))
  have HR := Lib.hid hr
  clear hr
  unfold quotaC at *
  go_enter Try.func17, Try.ntmps17
  go_wp2_with (first
    | (refine wpList_load_mid rfl _ _ rfl g 5 rfl _ _ HR.out und_quota rfl info_quota ?_)
    | (refine store_whole rfl _ _ _ rfl w.heap.size rfl HO.out (quotaC a b c) rfl rfl info_quota (quota_one _ _ _) ?_; intro w2 hO2; have HO2 := Lib.hid hO2; clear hO2))
  exact bodyPost_ret (results_cell_row rfl _ _ w.heap.size _ (quotaC a b c) _ _ rfl HO2.out.head und_quota rfl info_quota) rfl ⟨rfl, HO2.out.below⟩
set_option maxHeartbeats 800000 in
theorem p_climb (hO : Owned w0 w (polB g gf gd gm P o ++ F)) :
    Calls Try.prog 18 #[.pointer (some ⟨g, 0, none⟩)] w fun e w' => e = .returned (.agg (climbC P.ch P.cm P.cl P.cs)) ∧ Below w.heap.size w w' := by
  have hr : (w.alloc (.cells (climbC 0 0 0 0) 45)).rangeAt g _ _ := polB_rangec (hO.alloc_ (.cells (climbC 0 0 0 0) 45))
  clear hO
  generalize P.ch = a at *
  generalize P.cm = b at *
  generalize P.cl = c at *
  generalize P.cs = d at *
  have HO := Lib.hid ((Owned.nil w).alloc (.cells (climbC 0 0 0 0) 45))
  have HR := Lib.hid hr
  clear hr
  unfold climbC at *
  go_enter Try.func18, Try.ntmps18
  go_wp2_with (first
    | (refine wpList_load_mid rfl _ _ rfl g 8 rfl _ _ HR.out und_climb rfl info_climb ?_)
    | (refine store_whole rfl _ _ _ rfl w.heap.size rfl HO.out (climbC a b c d) rfl rfl info_climb (climb_one _ _ _ _) ?_; intro w2 hO2; have HO2 := Lib.hid hO2; clear hO2))
  exact bodyPost_ret (results_cell_row rfl _ _ w.heap.size _ (climbC a b c d) _ _ rfl HO2.out.head und_climb rfl info_climb) rfl ⟨rfl, HO2.out.below⟩
set_option maxHeartbeats 800000 in
theorem p_key (h : PolIn gf gd k n P rf rd o) (x : Int) (hx : wfk x) (hO : Owned w0 w (polB g gf gd gm P o ++ F)) :
    Calls Try.prog 20 #[.pointer (some ⟨g, 0, none⟩), .int .i64 x] w fun e w' => e = .returned (.tuple #[.int .i64 (P.key x), .bool (P.ks x).isSome]) ∧ Below w.heap.size w w' := by
  have hl := h.key x hO hx
  have c4 : w.cell? ⟨g, 4, none⟩ = some (.map (some gm)) := (polB_cell hO 4).trans rfl
  clear hO h
  generalize P.key x = y at *
  generalize (P.ks x).isSome = b at *
  go_enter Try.func20, Try.ntmps20
  go_wp2
  exact bodyPost_ret (results_tmp2 rfl _ _ _) rfl ⟨rfl, Below.refl _ _⟩
set_option maxHeartbeats 800000 in
theorem p_often (h : PolIn gf gd k n P rf rd o) (x : Int) (hO : Owned w0 w (polB g gf gd gm P o ++ (rf ++ (rd ++ F)))) :
    Calls Try.prog 19 #[.pointer (some ⟨g, 0, none⟩), .int .i64 x] w fun e w' => e = .returned (.int .i64 (P.oft x : Int)) ∧ Below w.heap.size w w' := by
  have ho := f_oftenB x (show P.fl.often P.sd P.wd x = P.oft x from rfl) h.fil hO.comm
  have c2 : w.cell? ⟨g, 2, none⟩ = some (.pointer (some ⟨gf, 0, none⟩)) := (polB_cell hO 2).trans rfl
  clear hO h
  generalize P.oft x = y at *
  go_enter Try.func19, Try.ntmps19
  go_wp2_with fail
  go_at_call 35
  refine (ho).mono ?_
  rintro e w1 ⟨rfl, hb⟩
  go_wp2_with fail
  go_ret
  exact ⟨rfl, hb⟩
set_option maxHeartbeats 1600000 in
theorem p_heavy (x : Int) (hO : Owned w0 w (polB g gf gd gm P o ++ F)) :
    Calls Try.prog 43 #[.pointer (some ⟨g, 0, none⟩), .int .i64 x] w fun e w' => e = .returned (.int .i64 (heavyN P.cap x)) ∧ w' = w := by
  have c0 : w.cell? ⟨g, 0, none⟩ = some (.int .i64 P.cap) := (polB_cell hO 0).trans rfl
  clear hO
  generalize P.cap = c at *
  by_cases h1 : x < 0
  · have e : heavyN c x = 1 := if_pos h1
    rw [e]
    clear e
    go_enter Try.func43, Try.ntmps43
    go_wp2
    go_ret
    exact ⟨rfl, rfl⟩
  · by_cases h2 : 2147483648 < x
    · have e : heavyN c x = 4 := by unfold heavyN; rw [if_neg h1, if_pos (.inl h2)]
      rw [e]
      clear e
      go_enter Try.func43, Try.ntmps43
      go_wp2
      go_ret
      exact ⟨rfl, rfl⟩
    · by_cases h3 : c < x
      · have e : heavyN c x = 4 := by unfold heavyN; rw [if_neg h1, if_pos (.inr h3)]
        rw [e]
        clear e
        go_enter Try.func43, Try.ntmps43
        go_wp2
        go_ret
        exact ⟨rfl, rfl⟩
      · have e : heavyN c x = 0 := by unfold heavyN; rw [if_neg h1, if_neg (by omega)]
        rw [e]
        clear e
        go_enter Try.func43, Try.ntmps43
        go_wp2
        go_ret
        exact ⟨rfl, rfl⟩
end
end Go.Proofs.Ytnhdjpeadhcajaa
