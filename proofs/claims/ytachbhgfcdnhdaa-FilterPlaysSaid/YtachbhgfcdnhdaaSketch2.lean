/- Layer 3: how a sketch stands in memory; width, samples, count. -/
import Derived.Test.YtachbhgfcdnhdaaWordsV
import Derived.Test.YtachbhgfcdnhdaaSketch
namespace Go.Proofs.Ytachbhgfcdnhdaa
open Go.RowKit NibPure Go.Sep
theorem index4 (d : Nat → Nat) (w : World) : ∀ k : Nat, k < 4 → (Instr.index 73 (.agg (arr4 d)) (.int .i64 (k : Int))).run Try.prog w = .ok (.int .i64 (d k)) w
  | 0, _ => by kernel_rfl
  | 1, _ => by kernel_rfl
  | 2, _ => by kernel_rfl
  | 3, _ => by kernel_rfl
  | n + 4, h => absurd h (by omega)
def halfN (x : Nat) : Nat := x / 2 &&& 8608480567731124087
theorem halfN_lt (x : Nat) : halfN x < 18446744073709551616 := Nat.lt_of_le_of_lt Nat.and_le_right (by omega)
theorem halfN_dg (x k : Nat) (hk : k < 16) : dg (halfN x) k = dg x k / 2 := halve_dg x k hk
/-- a sketch's own block and its rows' -/
def skB (g : Nat) (seed : Int) (n N : Nat) (rb : Nat → Nat) (rw : Nat → List Nat) : Own :=
  [(g, .cells #[.int .i64 ((16 * n : Nat) : Int), .int .i64 seed, .int .i64 (N : Int), .slice (some ⟨rb 0, 0, none⟩) n n, .slice (some ⟨rb 1, 0, none⟩) n n, .slice (some ⟨rb 2, 0, none⟩) n n, .slice (some ⟨rb 3, 0, none⟩) n n] 64 (0, 0)),
   (rb 0, .cells (wordsV (rw 0)).toArray 72 (0, 0)), (rb 1, .cells (wordsV (rw 1)).toArray 72 (0, 0)), (rb 2, .cells (wordsV (rw 2)).toArray 72 (0, 0)), (rb 3, .cells (wordsV (rw 3)).toArray 72 (0, 0))]
def upd (rw : Nat → List Nat) (k q v : Nat) : Nat → List Nat := fun i => if i = k then (rw i).set q v else rw i
section
variable {g n N : Nat} {seed : Int} {rb : Nat → Nat} {rw : Nat → List Nat} {w0 w : World} {F : Own}
theorem sk_c0 (h : Owned w0 w (skB g seed n N rb rw ++ F)) : w.cell? ⟨g, 0, none⟩ = some (.int .i64 ((16 * n : Nat) : Int)) := (Owned.cell h 0).trans rfl
theorem sk_c1 (h : Owned w0 w (skB g seed n N rb rw ++ F)) : w.cell? ⟨g, 1, none⟩ = some (.int .i64 seed) := (Owned.cell h 1).trans rfl
theorem sk_c2 (h : Owned w0 w (skB g seed n N rb rw ++ F)) : w.cell? ⟨g, 2, none⟩ = some (.int .i64 (N : Int)) := (Owned.cell h 2).trans rfl
theorem sk_row (h : Owned w0 w (skB g seed n N rb rw ++ F)) : ∀ k, k < 4 → w.cell? ⟨g, 3 + k, none⟩ = some (.slice (some ⟨rb k, 0, none⟩) n n)
  | 0, _ => (Owned.cell h 3).trans rfl
  | 1, _ => (Owned.cell h 4).trans rfl
  | 2, _ => (Owned.cell h 5).trans rfl
  | 3, _ => (Owned.cell h 6).trans rfl
  | n + 4, h => absurd h (by omega)
theorem sk_front (h : Owned w0 w (skB g seed n N rb rw ++ F)) : ∀ k, k < 4 → ∃ l, Owned w0 w ((rb k, .cells (wordsV (rw k)).toArray 72 (0, 0)) :: l) ∧ ∀ (v : Array Value) (W : World), Owned w0 W ((rb k, .cells v 72 (0, 0)) :: l) → ∀ ws : List Nat, v = (wordsV ws).toArray → Owned w0 W (skB g seed n N rb (fun i => if i = k then ws else rw i) ++ F)
  | 0, _ => ⟨_, Owned.comm (a := [_]) (b := [_]) h, fun v W hW ws e => by subst e; exact Owned.comm (b := [_]) (a := [_]) hW⟩
  | 1, _ => ⟨_, Owned.comm (a := [_, _]) (b := [_]) h, fun v W hW ws e => by subst e; exact Owned.comm (b := [_, _]) (a := [_]) hW⟩
  | 2, _ => ⟨_, Owned.comm (a := [_, _, _]) (b := [_]) h, fun v W hW ws e => by subst e; exact Owned.comm (b := [_, _, _]) (a := [_]) hW⟩
  | 3, _ => ⟨_, Owned.comm (a := [_, _, _, _]) (b := [_]) h, fun v W hW ws e => by subst e; exact Owned.comm (b := [_, _, _, _]) (a := [_]) hW⟩
  | n + 4, h => absurd h (by omega)
theorem sk_word (h : Owned w0 w (skB g seed n N rb rw ++ F)) {k q : Nat} (hk : k < 4) (hq : q < (rw k).length) : w.cell? ⟨rb k, q, none⟩ = some (.int .u64 (((rw k).getD q 0 : Nat) : Int)) := by
  obtain ⟨l, h1, _⟩ := sk_front h k hk
  exact (Owned.cell h1 q).trans (wordsV_get _ q hq)
theorem sk_free (h : Owned w0 w (skB g seed n N rb rw ++ F)) {k : Nat} (hk : k < 4) (q : Nat) : w.frozen? ⟨rb k, q, none⟩ = false := by
  obtain ⟨l, h1, _⟩ := sk_front h k hk
  exact Owned.frozen h1 q
theorem sk_set (h : Owned w0 w (skB g seed n N rb rw ++ F)) {k : Nat} (hk : k < 4) (q v : Nat) : Owned w0 (w.setCell ⟨rb k, q, none⟩ (.int .u64 (v : Int))) (skB g seed n N rb (upd rw k q v) ++ F) := by
  obtain ⟨l, h1, h2⟩ := sk_front h k hk
  have := h2 _ _ (Owned.set h1 q (.int .u64 (v : Int))) _ (wordsV_set _ _ _)
  have e : (fun i => if i = k then (rw k).set q v else rw i) = upd rw k q v := by
    funext i
    unfold upd
    split
    · next e => rw [e]
    · rfl
  rw [e] at this
  exact this
set_option maxHeartbeats 400000 in
theorem sk_width (h : Owned w0 w (skB g seed n N rb rw ++ F)) :
    Calls Try.prog 18 #[.pointer (some ⟨g, 0, none⟩)] w fun e w' => e = .returned (.int .i64 ((16 * n : Nat) : Int)) ∧ w = w' := by
  have c0 := sk_c0 h
  clear h
  generalize ((16 * n : Nat) : Int) = W at *
  go_enter Try.func18, Try.ntmps18
  go_wp2
  go_ret
  exact ⟨rfl, rfl⟩
/-- what the rows count: row, place -/
def cS (rw : Nat → List Nat) (k c : Nat) : Nat := dg ((rw k).getD (c / 16) 0) (c % 16)
def mnS (S : Nat → Nat → Nat) (p : Nat → Nat) : Nat → Nat
  | 0 => 16
  | k + 1 => min (mnS S p k) (S k (p k))
theorem mnS_le (S : Nat → Nat → Nat) (p : Nat → Nat) : ∀ k, mnS S p k ≤ 16
  | 0 => Nat.le_refl _
  | k + 1 => by have := mnS_le S p k; rw [mnS]; omega
theorem div16 (i : Nat) : (i : Int) / 16 = ((i / 16 : Nat) : Int) := by omega
theorem mod16 (i : Nat) : (i : Int).tmod 16 = ((i % 16 : Nat) : Int) := by
  rw [Int.tmod_eq_emod_of_nonneg (by omega)]; omega
set_option maxHeartbeats 1600000 in
theorem sk_count (key : Int) (hn1 : 1 ≤ n) (hn2 : n ≤ 4096) (hlen : ∀ k, k < 4 → (rw k).length = n) (hlt : ∀ k q, (rw k).getD q 0 < 18446744073709551616) (h : Owned w0 w (skB g seed n N rb rw ++ F)) :
    Calls Try.prog 29 #[.pointer (some ⟨g, 0, none⟩), .int .i64 key] w fun e w' => e = .returned (.int .i64 (mnS (cS rw) (plS seed key (16 * n)) 4 : Nat)) ∧ Below w.heap.size w w' := by
  have cp := skp_calls key seed g (16 * n) (by omega) w (sk_c0 h) (sk_c1 h)
  have hp := fun k => plS_lt seed key (show 1 ≤ 16 * n by omega) k
  generalize plS seed key (16 * n) = p at *
  have hm : ∀ k, mnS (cS rw) p (k + 1) = min (mnS (cS rw) p k) (dg ((rw k).getD (p k / 16) 0) (p k % 16)) := fun k => rfl
  have HM := Lib.hid hm
  have HP := Lib.hid hp
  have HLEN := Lib.hid hlen
  have HLT := Lib.hid hlt
  have hmle := mnS_le (cS rw) p
  have HML := Lib.hid hmle
  clear hm hp hlen hlt hmle
  have HO := Lib.hid h
  clear h
  go_enter Try.func29, Try.ntmps29
  go_wp2_with fail
  go_at_call 35
  refine (cp).mono ?_
  rintro e w1 ⟨rfl, hb1⟩
  have HO1 := Lib.hid (HO.out.under hb1)
  have HB := Lib.hid hb1
  clear cp hb1 HO
  generalize hM : mnS (cS rw) p = M at *
  go_wp2_with fail
  go_loop [5, 11] (fun x5 x11 => ∃ k : Nat, k ≤ 4 ∧ x11 = .int .i64 k ∧ x5 = .int .i64 (M k : Nat)) (fun _ x11 => 4 - (intOf x11).toNat)
  case atStart => exact ⟨0, by omega, rfl, by rw [← hM]; rfl⟩
  case round =>
    obtain ⟨k, hk, rfl, rfl⟩ := hrel
    by_cases hlt : k < 4
    · have hix := fun w => index4 p w k hlt
      have hpk := HP.out k
      have cr := sk_row HO1.out k hlt
      have hq : p k / 16 < n := by omega
      have cw := sk_word HO1.out hlt (q := p k / 16) (by rw [HLEN.out k hlt]; exact hq)
      have cg := get_in _ (HLT.out k (p k / 16)) (p k % 16) (by omega)
      have hmk := HM.out k
      have hml := HML.out k
      have k1 := div16 (p k)
      have k2 := mod16 (p k)
      have hd := dg_lt ((rw k).getD (p k / 16) 0) (p k % 16)
      generalize dg ((rw k).getD (p k / 16) 0) (p k % 16) = d at *
      generalize (rw k).getD (p k / 16) 0 = x at *
      generalize M k = m0 at *
      have HK := Lib.hid hmk
      clear hM hmk
      generalize p k / 16 = q at *
      generalize p k % 16 = m at *
      generalize p k = pk at *
      have k3 : ((q : Nat) : Int) < (n : Int) := by omega
      have k4 : min (m0 : Int) (d : Int) = ((min m0 d : Nat) : Int) := by omega
      go_wp2_with fail
      go_at_call 41
      refine (cg _).mono ?_
      rintro e w2 ⟨rfl, rfl⟩
      go_wp2_with fail
      go_round
      case rel => exact ⟨k + 1, by omega, by go_num, by rw [HK.out]; congr 1; split <;> omega⟩
      case measure => simp [intOf]; omega
    · obtain rfl : k = 4 := by omega
      go_wp2_with fail
      go_ret
      exact ⟨rfl, HB.out⟩
end
end Go.Proofs.Ytachbhgfcdnhdaa
