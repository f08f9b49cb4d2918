/- Merged texts: Layer 3: how a sketch stands in memory; width, samples, count. Layer 3: a sketch is halved. -/
import Derived.Test.YtnhdjpeadhcajaaK06
import Derived.Test.YtnhdjpeadhcajaaK09
namespace Go.Proofs.Ytnhdjpeadhcajaa
open Go.RowKit NibPure Go.Sep
theorem index4 (d : Nat → Nat) (w : World) : ∀ k : Nat, k < 4 → (Instr.index 118 (.agg (arr4 d)) (.int .i64 (k : Int))).run Try.prog w = .ok (.int .i64 (d k)) w
  | 0, _ => by kernel_rfl
  | 1, _ => by kernel_rfl
  | 2, _ => by kernel_rfl
  | 3, _ => by kernel_rfl
  | n + 4, h => absurd h (by omega)
def halfN (x : Nat) : Nat := x / 2 &&& 8608480567731124087
theorem halfN_lt (x : Nat) : halfN x < 18446744073709551616 := Nat.lt_of_le_of_lt Nat.and_le_right (by omega)
theorem halfN_dg (x k : Nat) (hk : k < 16) : dg (halfN x) k = dg x k / 2 := halve_dg x k hk
/-- a sketch's own block and its rows' -/
def skB (g : Nat) (seed : Int) (n N : Nat) (rb : Nat → Nat) (rw : Nat → List Nat) : Own :=
  [(g, .cells #[.int .i64 ((16 * n : Nat) : Int), .int .i64 seed, .int .i64 (N : Int), .slice (some ⟨rb 0, 0, none⟩) n n, .slice (some ⟨rb 1, 0, none⟩) n n, .slice (some ⟨rb 2, 0, none⟩) n n, .slice (some ⟨rb 3, 0, none⟩) n n] 113 (0, 0)),
   (rb 0, .cells (wordsV (rw 0)).toArray 117 (0, 0)), (rb 1, .cells (wordsV (rw 1)).toArray 117 (0, 0)), (rb 2, .cells (wordsV (rw 2)).toArray 117 (0, 0)), (rb 3, .cells (wordsV (rw 3)).toArray 117 (0, 0))]
def updl (rw : Nat → List Nat) (k q v : Nat) : Nat → List Nat := fun i => if i = k then (rw i).set q v else rw i
section
variable {g n N : Nat} {seed : Int} {rb : Nat → Nat} {rw : Nat → List Nat} {w0 w : World} {F : Own}
theorem sk_c0 (h : Owned w0 w (skB g seed n N rb rw ++ F)) : w.cell? ⟨g, 0, none⟩ = some (.int .i64 ((16 * n : Nat) : Int)) := (Owned.cell h 0).trans rfl
theorem sk_c1 (h : Owned w0 w (skB g seed n N rb rw ++ F)) : w.cell? ⟨g, 1, none⟩ = some (.int .i64 seed) := (Owned.cell h 1).trans rfl
theorem sk_c2 (h : Owned w0 w (skB g seed n N rb rw ++ F)) : w.cell? ⟨g, 2, none⟩ = some (.int .i64 (N : Int)) := (Owned.cell h 2).trans rfl
theorem sk_row (h : Owned w0 w (skB g seed n N rb rw ++ F)) : ∀ k, k < 4 → w.cell? ⟨g, 3 + k, none⟩ = some (.slice (some ⟨rb k, 0, none⟩) n n)
  | 0, _ => (Owned.cell h 3).trans rfl
  | 1, _ => (Owned.cell h 4).trans rfl
  | 2, _ => (Owned.cell h 5).trans rfl
  | 3, _ => (Owned.cell h 6).trans rfl
  | n + 4, h => absurd h (by omega)
theorem sk_front (h : Owned w0 w (skB g seed n N rb rw ++ F)) : ∀ k, k < 4 → ∃ l, Owned w0 w ((rb k, .cells (wordsV (rw k)).toArray 117 (0, 0)) :: l) ∧ ∀ (v : Array Value) (W : World), Owned w0 W ((rb k, .cells v 117 (0, 0)) :: l) → ∀ ws : List Nat, v = (wordsV ws).toArray → Owned w0 W (skB g seed n N rb (fun i => if i = k then ws else rw i) ++ F)
  | 0, _ => ⟨_, Owned.comm (a := [_]) (b := [_]) h, fun v W hW ws e => by subst e; exact Owned.comm (b := [_]) (a := [_]) hW⟩
  | 1, _ => ⟨_, Owned.comm (a := [_, _]) (b := [_]) h, fun v W hW ws e => by subst e; exact Owned.comm (b := [_, _]) (a := [_]) hW⟩
  | 2, _ => ⟨_, Owned.comm (a := [_, _, _]) (b := [_]) h, fun v W hW ws e => by subst e; exact Owned.comm (b := [_, _, _]) (a := [_]) hW⟩
  | 3, _ => ⟨_, Owned.comm (a := [_, _, _, _]) (b := [_]) h, fun v W hW ws e => by subst e; exact Owned.comm (b := [_, _, _, _]) (a := [_]) hW⟩
  | n + 4, h => absurd h (by omega)
theorem sk_word (h : Owned w0 w (skB g seed n N rb rw ++ F)) {k q : Nat} (hk : k < 4) (hq : q < (rw k).length) : w.cell? ⟨rb k, q, none⟩ = some (.int .u64 (((rw k).getD q 0 : Nat) : Int)) := by
  obtain ⟨l, h1, _⟩ := sk_front h k hk
  exact (Owned.cell h1 q).trans (wordsV_get _ q hq)
theorem sk_free (h : Owned w0 w (skB g seed n N rb rw ++ F)) {k : Nat} (hk : k < 4) (q : Nat) : w.frozen? ⟨rb k, q, none⟩ = false := by
  obtain ⟨l, h1, _⟩ := sk_front h k hk
  exact Owned.frozen h1 q
theorem sk_set (h : Owned w0 w (skB g seed n N rb rw ++ F)) {k : Nat} (hk : k < 4) (q v : Nat) : Owned w0 (w.setCell ⟨rb k, q, none⟩ (.int .u64 (v : Int))) (skB g seed n N rb (updl rw k q v) ++ F) := by
  obtain ⟨l, h1, h2⟩ := sk_front h k hk
  have := h2 _ _ (Owned.set h1 q (.int .u64 (v : Int))) _ (wordsV_set _ _ _)
  have e : (fun i => if i = k then (rw k).set q v else rw i) = updl rw k q v := by
    funext i
    unfold updl
    split
    · next e => rw [e]
    · rfl
  rw [e] at this
  exact this
set_option maxHeartbeats 400000 in
theorem sk_width (h : Owned w0 w (skB g seed n N rb rw ++ F)) :
    Calls Try.prog 38 #[.pointer (some ⟨g, 0, none⟩)] w fun e w' => e = .returned (.int .i64 ((16 * n : Nat) : Int)) ∧ w = w' := by
  have c0 := sk_c0 h
  clear h
  generalize ((16 * n : Nat) : Int) = W at *
  go_enter Try.func38, Try.ntmps38
  go_wp2
  go_ret
  exact ⟨rfl, rfl⟩
/-- what the rows count: row, place -/
def cS (rw : Nat → List Nat) (k c : Nat) : Nat := dg ((rw k).getD (c / 16) 0) (c % 16)
def mnS (S : Nat → Nat → Nat) (p : Nat → Nat) : Nat → Nat
  | 0 => 16
  | k + 1 => min (mnS S p k) (S k (p k))
theorem mnS_le (S : Nat → Nat → Nat) (p : Nat → Nat) : ∀ k, mnS S p k ≤ 16
  | 0 => Nat.le_refl _
  | k + 1 => by have := mnS_le S p k; rw [mnS]; omega
theorem div16 (i : Nat) : (i : Int) / 16 = ((i / 16 : Nat) : Int) := by omega
theorem mod16 (i : Nat) : (i : Int).tmod 16 = ((i % 16 : Nat) : Int) := by
  rw [Int.tmod_eq_emod_of_nonneg (by omega)]; omega
set_option maxHeartbeats 1600000 in
theorem sk_count (key : Int) (hn1 : 1 ≤ n) (hn2 : n ≤ 4096) (hlen : ∀ k, k < 4 → (rw k).length = n) (hlt : ∀ k q, (rw k).getD q 0 < 18446744073709551616) (h : Owned w0 w (skB g seed n N rb rw ++ F)) :
    Calls Try.prog 61 #[.pointer (some ⟨g, 0, none⟩), .int .i64 key] w fun e w' => e = .returned (.int .i64 (mnS (cS rw) (plS seed key (16 * n)) 4 : Nat)) ∧ Below w.heap.size w w' := by
  have cp := skp_calls key seed g (16 * n) (by omega) w (sk_c0 h) (sk_c1 h)
  have hp := fun k => plS_lt seed key (show 1 ≤ 16 * n by omega) k
  generalize plS seed key (16 * n) = p at *
  have hm : ∀ k, mnS (cS rw) p (k + 1) = min (mnS (cS rw) p k) (dg ((rw k).getD (p k / 16) 0) (p k % 16)) := fun k => rfl
  have HM := Lib.hid hm
  have HP := Lib.hid hp
  have HLEN := Lib.hid hlen
  have HLT := Lib.hid hlt
  have hmle := mnS_le (cS rw) p
  have HML := Lib.hid hmle
  clear hm hp hlen hlt hmle
  have HO := Lib.hid h
  clear h
  go_enter Try.func61, Try.ntmps61
  go_wp2_with fail
  go_at_call 66
  refine (cp).mono ?_
  rintro e w1 ⟨rfl, hb1⟩
  have HO1 := Lib.hid (HO.out.under hb1)
  have HB := Lib.hid hb1
  clear cp hb1 HO
  generalize hM : mnS (cS rw) p = M at *
  go_wp2_with fail
  go_loop [5, 11] (fun x5 x11 => ∃ k : Nat, k ≤ 4 ∧ x11 = .int .i64 k ∧ x5 = .int .i64 (M k : Nat)) (fun _ x11 => 4 - (intOf x11).toNat)
  case atStart => exact ⟨0, by omega, rfl, by rw [← hM]; rfl⟩
  case round =>
    obtain ⟨k, hk, rfl, rfl⟩ := hrel
    by_cases hlt : k < 4
    · have hix := fun w => index4 p w k hlt
      have hpk := HP.out k
      have cr := sk_row HO1.out k hlt
      have hq : p k / 16 < n := by omega
      have cw := sk_word HO1.out hlt (q := p k / 16) (by rw [HLEN.out k hlt]; exact hq)
      have cg := get_in _ (HLT.out k (p k / 16)) (p k % 16) (by omega)
      have hmk := HM.out k
      have hml := HML.out k
      have k1 := div16 (p k)
      have k2 := mod16 (p k)
      have hd := dg_lt ((rw k).getD (p k / 16) 0) (p k % 16)
      generalize dg ((rw k).getD (p k / 16) 0) (p k % 16) = d at *
      generalize (rw k).getD (p k / 16) 0 = x at *
      generalize M k = m0 at *
      have HK := Lib.hid hmk
      clear hM hmk
      generalize p k / 16 = q at *
      generalize p k % 16 = m at *
      generalize p k = pk at *
      have k3 : ((q : Nat) : Int) < (n : Int) := by omega
      have k4 : min (m0 : Int) (d : Int) = ((min m0 d : Nat) : Int) := by omega
      go_wp2_with fail
      go_at_call 78
      refine (cg _).mono ?_
      rintro e w2 ⟨rfl, rfl⟩
      go_wp2_with fail
      go_round
      case rel => exact ⟨k + 1, by omega, by go_num, by rw [HK.out]; congr 1; split <;> omega⟩
      case measure => simp [intOf]; omega
    · obtain rfl : k = 4 := by omega
      go_wp2_with fail
      go_ret
      exact ⟨rfl, HB.out⟩
end
end Go.Proofs.Ytnhdjpeadhcajaa
namespace Go.Proofs.Ytnhdjpeadhcajaa
open Go.RowKit NibPure Go.Sep
def arrV (d : Nat → Value) : Array Value := #[d 0, d 1, d 2, d 3]
theorem indexV (d : Nat → Value) (w : World) : ∀ k : Nat, k < 4 → (Instr.index 111 (.agg (arrV d)) (.int .i64 (k : Int))).run Try.prog w = .ok (d k) w
  | 0, _ => by kernel_rfl
  | 1, _ => by kernel_rfl
  | 2, _ => by kernel_rfl
  | 3, _ => by kernel_rfl
  | n + 4, h => absurd h (by omega)
section
variable {g n N : Nat} {seed : Int} {rb : Nat → Nat} {rw : Nat → List Nat} {w0 w : World} {F : Own}
/-- the words are well -/
structure Rows (n : Nat) (rw : Nat → List Nat) : Prop where
  len : ∀ k, k < 4 → (rw k).length = n
  lt : ∀ k q, (rw k).getD q 0 < 18446744073709551616
def HalfRel (w0 : World) (F : Own) (g n N : Nat) (seed : Int) (rb : Nat → Nat) (rw : Nat → List Nat) (k q : Nat) (w : World) : Prop :=
  ∃ rw', Owned w0 w (skB g seed n N rb rw' ++ F) ∧ Rows n rw' ∧ ∀ i c, i < 4 → c < n → (rw' i).getD c 0 = if i < k ∨ (i = k ∧ c < q) then halfN ((rw i).getD c 0) else (rw i).getD c 0
theorem getD_set' (l : List Nat) (i k : Nat) (v d : Nat) : (l.set i v).getD k d = if i = k ∧ i < l.length then v else l.getD k d := by
  simp only [List.getD, List.getElem?_set]
  by_cases h : i = k
  · subst h
    by_cases h2 : i < l.length
    · rw [if_pos rfl, if_pos h2, if_pos ⟨rfl, h2⟩]; rfl
    · rw [if_pos rfl, if_neg h2, if_neg (fun hh => h2 hh.2), List.getElem?_eq_none (by omega)]
  · rw [if_neg h, if_neg (fun hh => h hh.1)]
theorem Rows.updl (h : Rows n rw) (k q v : Nat) (hv : v < 18446744073709551616) : Rows n (updl rw k q v) := by
  refine ⟨fun i hi => ?_, fun i c => ?_⟩
  · unfold Proofs.Ytnhdjpeadhcajaa.updl
    split
    · rw [List.length_set]; exact h.len i hi
    · exact h.len i hi
  · unfold Proofs.Ytnhdjpeadhcajaa.updl
    split
    · rw [getD_set']
      split
      · exact hv
      · exact h.lt i c
    · exact h.lt i c
theorem upd_get (hl : Rows n rw) {k q : Nat} (hk : k < 4) (hq : q < n) (v i c : Nat) : (updl rw k q v i).getD c 0 = if i = k ∧ c = q then v else (rw i).getD c 0 := by
  unfold updl
  by_cases e : i = k
  · subst e
    rw [if_pos rfl, getD_set', hl.len _ hk]
    by_cases e2 : q = c
    · subst e2; rw [if_pos ⟨rfl, hq⟩, if_pos ⟨rfl, rfl⟩]
    · rw [if_neg (fun h => e2 h.1), if_neg (fun h => e2 h.2.symm)]
  · rw [if_neg e, if_neg (fun h => e h.1)]
set_option maxHeartbeats 3200000 in
set_option maxRecDepth 100000 in
theorem sk_halve (hR : Rows n rw) (hn2 : n ≤ 4096) (hN : N ≤ 1000000) (h : Owned w0 w (skB g seed n N rb rw ++ F)) :
    Calls Try.prog 68 #[.pointer (some ⟨g, 0, none⟩)] w fun e w' => e = .returned (.tuple #[]) ∧ ∃ rw', Owned w0 w' (skB g seed n (N / 2) rb rw' ++ F) ∧ Rows n rw' ∧ ∀ i c, i < 4 → c < n → (rw' i).getD c 0 = halfN ((rw i).getD c 0) := by
  have r0 := sk_row h 0 (by omega)
  have r1 := sk_row h 1 (by omega)
  have r2 := sk_row h 2 (by omega)
  have r3 := sk_row h 3 (by omega)
  obtain ⟨d, hd⟩ : ∃ d : Nat → Value, d = fun k => .slice (some ⟨rb k, 0, none⟩) n n := ⟨_, rfl⟩
  have hdk : ∀ k, d k = .slice (some ⟨rb k, 0, none⟩) n n := fun k => by rw [hd]
  rw [← hdk] at r0 r1 r2 r3
  have hix := fun k hk w => indexV d w k hk
  have HIX := Lib.hid hix
  have HD := Lib.hid hdk
  have HO := Lib.hid (show HalfRel w0 F g n N seed rb rw 0 0 w from ⟨rw, h, hR, fun i c _ _ => by rw [if_neg (by omega)]⟩)
  clear hix hdk hd
  unfold arrV at HIX
  go_enter Try.func68, Try.ntmps68
  go_wp2_with fail
  clear r0 r1 r2 r3 h hR
  go_loopw [10] (fun x10 wr => ∃ k : Nat, k ≤ 4 ∧ x10 = .int .i64 k ∧ Hid (HalfRel w0 F g n N seed rb rw k 0 wr)) (fun x10 _ => 4 - (intOf x10).toNat)
  case atStart => exact ⟨0, by omega, rfl, HO⟩
  case round =>
    obtain ⟨k, hk, rfl, hrel⟩ := hrel
    clear HO
    by_cases hlt : k < 4
    · have hix := HIX.out k hlt
      have hdk := HD.out k
      rw [hdk] at hix
      have HREL := hrel
      have hdec : decide ((k : Int) < 4) = true := decide_eq_true (by omega)
      clear hdk hrel
      go_wp2_with fail
      go_loopw [15] (fun x15 wr => ∃ q : Nat, q ≤ n ∧ x15 = .int .i64 q ∧ Hid (HalfRel w0 F g n N seed rb rw k q wr)) (fun x15 _ => n - (intOf x15).toNat)
      case atStart => exact ⟨0, by omega, rfl, HREL⟩
      case round =>
        clear HREL hix hdec
        obtain ⟨q, hq, rfl, hrel2⟩ := hrel
        obtain ⟨rw', hO, hR', hval⟩ := hrel2.out
        clear hrel2
        by_cases hqn : q < n
        · have cw := sk_word hO hlt (q := q) (by rw [hR'.len k hlt]; exact hqn)
          have cf := sk_free hO hlt q
          have hx := hR'.lt k q
          have ch := halve_calls _ hx
          have hv := hval k q hlt hqn
          rw [if_neg (by omega)] at hv
          have HNEW := Lib.hid (show HalfRel w0 F g n N seed rb rw k (q + 1) (wr.setCell ⟨rb k, q, none⟩ (.int .u64 ((halfN ((rw' k).getD q 0) : Nat) : Int))) from by
            refine ⟨_, sk_set hO hlt q (halfN ((rw' k).getD q 0)), hR'.updl k q _ (halfN_lt _), fun i c hi hc => ?_⟩
            rw [upd_get hR' hlt hqn]
            by_cases e : i = k ∧ c = q
            · obtain ⟨rfl, rfl⟩ := e
              rw [if_pos ⟨rfl, rfl⟩, if_pos (Or.inr ⟨rfl, Nat.lt_succ_self _⟩), hv]
            · rw [if_neg e, hval i c hi hc]
              by_cases e2 : i < k ∨ (i = k ∧ c < q)
              · rw [if_pos e2, if_pos (by omega)]
              · rw [if_neg e2, if_neg (by omega)])
          have e : ((rw' k).getD q 0) / 2 &&& 8608480567731124087 = halfN ((rw' k).getD q 0) := rfl
          rw [e] at ch
          clear hO hR' hval hv e
          generalize halfN ((rw' k).getD q 0) = y at *
          generalize (rw' k).getD q 0 = x at *
          go_wp2_with fail
          go_at_call 84
          refine (ch _).mono ?_
          rintro e w2 ⟨rfl, rfl⟩
          go_wp2_with fail
          go_roundw
          case rel => exact ⟨q + 1, by omega, by go_num, HNEW⟩
          case measure => simp [intOf]; omega
        · obtain rfl : q = n := by omega
          have HK := Lib.hid (show HalfRel w0 F g q N seed rb rw (k + 1) 0 wr from ⟨rw', hO, hR', fun i c hi hc => by
            rw [hval i c hi hc]
            by_cases e2 : i < k ∨ (i = k ∧ c < q)
            · rw [if_pos e2, if_pos (by omega)]
            · rw [if_neg e2, if_neg (by omega)]⟩)
          clear hO hR' hval
          go_wp2_with fail
          go_roundw
          case rel => exact ⟨k + 1, by omega, by go_num, HK⟩
          case measure => simp [intOf]; omega
    · obtain rfl : k = 4 := by omega
      obtain ⟨rw', hO, hR', hval⟩ := hrel.out
      have c2 := sk_c2 hO
      have cf : wr.frozen? ⟨g, 2, none⟩ = false := Owned.frozen hO 2
      have HO2 := Lib.hid (show Owned w0 (wr.setCell ⟨g, 2, none⟩ (.int .i64 ((N : Int) / 2))) (skB g seed n (N / 2) rb rw' ++ F) from by
        rw [show (N : Int) / 2 = ((N / 2 : Nat) : Int) by omega]
        exact Owned.set hO 2 (.int .i64 ((N / 2 : Nat) : Int)))
      have HV := Lib.hid hval
      have HRR := Lib.hid hR'
      clear hO hrel hval hR'
      go_wp2_with fail
      go_end0
      refine ⟨rfl, rw', HO2.out, HRR.out, fun i c hi hc => ?_⟩
      rw [HV.out i c hi hc, if_pos (Or.inl hi)]
end
end Go.Proofs.Ytnhdjpeadhcajaa
