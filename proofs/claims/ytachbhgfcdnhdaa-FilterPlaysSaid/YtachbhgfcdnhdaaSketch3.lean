/- Layer 3: a sketch is halved. -/
import Derived.Test.YtachbhgfcdnhdaaSketch2
namespace Go.Proofs.Ytachbhgfcdnhdaa
open Go.RowKit NibPure Go.Sep
def arrV (d : Nat → Value) : Array Value := #[d 0, d 1, d 2, d 3]
theorem indexV (d : Nat → Value) (w : World) : ∀ k : Nat, k < 4 → (Instr.index 62 (.agg (arrV d)) (.int .i64 (k : Int))).run Try.prog w = .ok (d k) w
  | 0, _ => by kernel_rfl
  | 1, _ => by kernel_rfl
  | 2, _ => by kernel_rfl
  | 3, _ => by kernel_rfl
  | n + 4, h => absurd h (by omega)
section
variable {g n N : Nat} {seed : Int} {rb : Nat → Nat} {rw : Nat → List Nat} {w0 w : World} {F : Own}
/-- the words are well -/
structure Rows (n : Nat) (rw : Nat → List Nat) : Prop where
  len : ∀ k, k < 4 → (rw k).length = n
  lt : ∀ k q, (rw k).getD q 0 < 18446744073709551616
def HalfRel (w0 : World) (F : Own) (g n N : Nat) (seed : Int) (rb : Nat → Nat) (rw : Nat → List Nat) (k q : Nat) (w : World) : Prop :=
  ∃ rw', Owned w0 w (skB g seed n N rb rw' ++ F) ∧ Rows n rw' ∧ ∀ i c, i < 4 → c < n → (rw' i).getD c 0 = if i < k ∨ (i = k ∧ c < q) then halfN ((rw i).getD c 0) else (rw i).getD c 0
theorem getD_set' (l : List Nat) (i k : Nat) (v d : Nat) : (l.set i v).getD k d = if i = k ∧ i < l.length then v else l.getD k d := by
  simp only [List.getD, List.getElem?_set]
  by_cases h : i = k
  · subst h
    by_cases h2 : i < l.length
    · rw [if_pos rfl, if_pos h2, if_pos ⟨rfl, h2⟩]; rfl
    · rw [if_pos rfl, if_neg h2, if_neg (fun hh => h2 hh.2), List.getElem?_eq_none (by omega)]
  · rw [if_neg h, if_neg (fun hh => h hh.1)]
theorem Rows.upd (h : Rows n rw) (k q v : Nat) (hv : v < 18446744073709551616) : Rows n (upd rw k q v) := by
  refine ⟨fun i hi => ?_, fun i c => ?_⟩
  · unfold Proofs.Ytachbhgfcdnhdaa.upd
    split
    · rw [List.length_set]; exact h.len i hi
    · exact h.len i hi
  · unfold Proofs.Ytachbhgfcdnhdaa.upd
    split
    · rw [getD_set']
      split
      · exact hv
      · exact h.lt i c
    · exact h.lt i c
theorem upd_get (hl : Rows n rw) {k q : Nat} (hk : k < 4) (hq : q < n) (v i c : Nat) : (upd rw k q v i).getD c 0 = if i = k ∧ c = q then v else (rw i).getD c 0 := by
  unfold upd
  by_cases e : i = k
  · subst e
    rw [if_pos rfl, getD_set', hl.len _ hk]
    by_cases e2 : q = c
    · subst e2; rw [if_pos ⟨rfl, hq⟩, if_pos ⟨rfl, rfl⟩]
    · rw [if_neg (fun h => e2 h.1), if_neg (fun h => e2 h.2.symm)]
  · rw [if_neg e, if_neg (fun h => e h.1)]
set_option maxHeartbeats 3200000 in
set_option maxRecDepth 100000 in
theorem sk_halve (hR : Rows n rw) (hn2 : n ≤ 4096) (hN : N ≤ 1000000) (h : Owned w0 w (skB g seed n N rb rw ++ F)) :
    Calls Try.prog 37 #[.pointer (some ⟨g, 0, none⟩)] w fun e w' => e = .returned (.tuple #[]) ∧ ∃ rw', Owned w0 w' (skB g seed n (N / 2) rb rw' ++ F) ∧ Rows n rw' ∧ ∀ i c, i < 4 → c < n → (rw' i).getD c 0 = halfN ((rw i).getD c 0) := by
  have r0 := sk_row h 0 (by omega)
  have r1 := sk_row h 1 (by omega)
  have r2 := sk_row h 2 (by omega)
  have r3 := sk_row h 3 (by omega)
  obtain ⟨d, hd⟩ : ∃ d : Nat → Value, d = fun k => .slice (some ⟨rb k, 0, none⟩) n n := ⟨_, rfl⟩
  have hdk : ∀ k, d k = .slice (some ⟨rb k, 0, none⟩) n n := fun k => by rw [hd]
  rw [← hdk] at r0 r1 r2 r3
  have hix := fun k hk w => indexV d w k hk
  have HIX := Lib.hid hix
  have HD := Lib.hid hdk
  have HO := Lib.hid (show HalfRel w0 F g n N seed rb rw 0 0 w from ⟨rw, h, hR, fun i c _ _ => by rw [if_neg (by omega)]⟩)
  clear hix hdk hd
  unfold arrV at HIX
  go_enter Try.func37, Try.ntmps37
  go_wp2_with fail
  clear r0 r1 r2 r3 h hR
  go_loopw [10] (fun x10 wr => ∃ k : Nat, k ≤ 4 ∧ x10 = .int .i64 k ∧ Hid (HalfRel w0 F g n N seed rb rw k 0 wr)) (fun x10 _ => 4 - (intOf x10).toNat)
  case atStart => exact ⟨0, by omega, rfl, HO⟩
  case round =>
    obtain ⟨k, hk, rfl, hrel⟩ := hrel
    clear HO
    by_cases hlt : k < 4
    · have hix := HIX.out k hlt
      have hdk := HD.out k
      rw [hdk] at hix
      have HREL := hrel
      have hdec : decide ((k : Int) < 4) = true := decide_eq_true (by omega)
      clear hdk hrel
      go_wp2_with fail
      go_loopw [15] (fun x15 wr => ∃ q : Nat, q ≤ n ∧ x15 = .int .i64 q ∧ Hid (HalfRel w0 F g n N seed rb rw k q wr)) (fun x15 _ => n - (intOf x15).toNat)
      case atStart => exact ⟨0, by omega, rfl, HREL⟩
      case round =>
        clear HREL hix hdec
        obtain ⟨q, hq, rfl, hrel2⟩ := hrel
        obtain ⟨rw', hO, hR', hval⟩ := hrel2.out
        clear hrel2
        by_cases hqn : q < n
        · have cw := sk_word hO hlt (q := q) (by rw [hR'.len k hlt]; exact hqn)
          have cf := sk_free hO hlt q
          have hx := hR'.lt k q
          have ch := halve_calls _ hx
          have hv := hval k q hlt hqn
          rw [if_neg (by omega)] at hv
          have HNEW := Lib.hid (show HalfRel w0 F g n N seed rb rw k (q + 1) (wr.setCell ⟨rb k, q, none⟩ (.int .u64 ((halfN ((rw' k).getD q 0) : Nat) : Int))) from by
            refine ⟨_, sk_set hO hlt q (halfN ((rw' k).getD q 0)), hR'.upd k q _ (halfN_lt _), fun i c hi hc => ?_⟩
            rw [upd_get hR' hlt hqn]
            by_cases e : i = k ∧ c = q
            · obtain ⟨rfl, rfl⟩ := e
              rw [if_pos ⟨rfl, rfl⟩, if_pos (Or.inr ⟨rfl, Nat.lt_succ_self _⟩), hv]
            · rw [if_neg e, hval i c hi hc]
              by_cases e2 : i < k ∨ (i = k ∧ c < q)
              · rw [if_pos e2, if_pos (by omega)]
              · rw [if_neg e2, if_neg (by omega)])
          have e : ((rw' k).getD q 0) / 2 &&& 8608480567731124087 = halfN ((rw' k).getD q 0) := rfl
          rw [e] at ch
          clear hO hR' hval hv e
          generalize halfN ((rw' k).getD q 0) = y at *
          generalize (rw' k).getD q 0 = x at *
          go_wp2_with fail
          go_at_call 48
          refine (ch _).mono ?_
          rintro e w2 ⟨rfl, rfl⟩
          go_wp2_with fail
          go_roundw
          case rel => exact ⟨q + 1, by omega, by go_num, HNEW⟩
          case measure => simp [intOf]; omega
        · obtain rfl : q = n := by omega
          have HK := Lib.hid (show HalfRel w0 F g q N seed rb rw (k + 1) 0 wr from ⟨rw', hO, hR', fun i c hi hc => by
            rw [hval i c hi hc]
            by_cases e2 : i < k ∨ (i = k ∧ c < q)
            · rw [if_pos e2, if_pos (by omega)]
            · rw [if_neg e2, if_neg (by omega)]⟩)
          clear hO hR' hval
          go_wp2_with fail
          go_roundw
          case rel => exact ⟨k + 1, by omega, by go_num, HK⟩
          case measure => simp [intOf]; omega
    · obtain rfl : k = 4 := by omega
      obtain ⟨rw', hO, hR', hval⟩ := hrel.out
      have c2 := sk_c2 hO
      have cf : wr.frozen? ⟨g, 2, none⟩ = false := Owned.frozen hO 2
      have HO2 := Lib.hid (show Owned w0 (wr.setCell ⟨g, 2, none⟩ (.int .i64 ((N : Int) / 2))) (skB g seed n (N / 2) rb rw' ++ F) from by
        rw [show (N : Int) / 2 = ((N / 2 : Nat) : Int) by omega]
        exact Owned.set hO 2 (.int .i64 ((N / 2 : Nat) : Int)))
      have HV := Lib.hid hval
      have HRR := Lib.hid hR'
      clear hO hrel hval hR'
      go_wp2_with fail
      go_end0
      refine ⟨rfl, rw', HO2.out, HRR.out, fun i c hi hc => ?_⟩
      rw [HV.out i c hi hc, if_pos (Or.inl hi)]
end
end Go.Proofs.Ytachbhgfcdnhdaa
