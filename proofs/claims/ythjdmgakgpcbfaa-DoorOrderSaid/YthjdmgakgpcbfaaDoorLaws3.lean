/- The statements of layer 4: DoorOrder, the walk. -/
import Derived.Test.YthjdmgakgpcbfaaDoorLaws2
namespace Go.Proofs.Ythjdmgakgpcbfaa
open Go.RowKit Go.Sep DoorPure
/-- the bits that are on are those of these keys -/
def OnOf (seed : Int) (S : Nat) (B : List Bool) (K : Int → Prop) : Prop := B.length = S ∧ ∀ t, t < S → (B.getD t false = true ↔ ∃ x, K x ∧ (t = plc seed x 0 S ∨ t = plc seed x 1 S))
theorem OnOf.zero (seed : Int) (S : Nat) {K : Int → Prop} (hK : ∀ x, ¬ K x) : OnOf seed S (List.replicate S false) K := by
  refine ⟨List.length_replicate, fun t ht => ?_⟩
  constructor
  · intro h; simp [List.getD, ht] at h
  · rintro ⟨x, hx, _⟩; exact absurd hx (hK x)
theorem OnOf.put {seed : Int} {S : Nat} {B : List Bool} {K K2 : Int → Prop} (h : OnOf seed S B K) (hS : 1 ≤ S) (x : Int) (hK : ∀ y, K2 y ↔ (K y ∨ y = x)) : OnOf seed S (putB seed x B) K2 := by
  refine ⟨by rw [putB_len]; exact h.1, fun t ht => ?_⟩
  rw [getD_put seed x (by rw [h.1]; exact hS), h.2 t ht, h.1]
  constructor
  · rintro (⟨y, hy, hp⟩ | hp)
    · exact ⟨y, (hK y).2 (Or.inl hy), hp⟩
    · exact ⟨x, (hK x).2 (Or.inr rfl), hp⟩
  · rintro ⟨y, hy, hp⟩
    rcases (hK y).1 hy with h1 | rfl
    · exact Or.inl ⟨y, h1, hp⟩
    · exact Or.inr hp
theorem OnOf.same {seed : Int} {S : Nat} {A B : List Bool} {K K2 : Int → Prop} (h1 : OnOf seed S A K) (h2 : OnOf seed S B K2) (hK : ∀ y, K y ↔ K2 y) : A = B := by
  apply ext_getD (by rw [h1.1, h2.1])
  intro t ht
  rw [h1.1] at ht
  rw [Bool.eq_iff_iff, h1.2 t ht, h2.2 t ht]
  exact exists_congr fun x => and_congr_left fun _ => hK x
set_option maxHeartbeats 800000 in
theorem order_out (width seed other : Int) (v : Value) (l : List Int) (w0 : World) (hv : Reads w0 v l) (h1 : 1024 < width ∨ (width ≤ 1024 ∧ 200 < l.length)) : Calls Try.prog 5 #[.int .i64 width, .int .i64 seed, v, .int .i64 other] w0 fun e w' => e = .returned (.bool true) ∧ Below w0.heap.size w0 w' := by
  obtain ⟨hl, A, c, rfl, _⟩ := hv
  rcases h1 with h1 | ⟨h1, h2⟩
  all_goals
    go_enter Try.func5, Try.ntmps5
    go_wp2_with fail
    go_at_call 7
    refine (small_calls w0).mono ?_
    rintro e w1 ⟨rfl, hb1⟩
    go_wp2_with fail
    go_ret
    exact ⟨rfl, hb1⟩
/-- the keys of the row from a place to a place, or the first -/
def Kup (l : List Int) (k : Nat) (x : Int) : Prop := ∃ m, m < k ∧ x = l.getD m 0
def Kdn (l : List Int) (k : Nat) (x : Int) : Prop := ∃ m, m < l.length ∧ (k ≤ m ∨ (m = 0 ∧ k < l.length)) ∧ x = l.getD m 0
def AtK (w0 : World) (F : Own) (g : Nat) (seed : Int) (S : Nat) (K : Int → Prop) (w : World) : Prop := ∃ B r, DoorAt g seed B r ∧ Owned w0 w (r ++ F) ∧ OnOf seed S B K
theorem Kup_succ (l : List Int) (k : Nat) (y : Int) : Kup l (k + 1) y ↔ (Kup l k y ∨ y = l.getD k 0) := by
  constructor
  · rintro ⟨m, hm, rfl⟩
    by_cases e : m = k
    · subst e; exact Or.inr rfl
    · exact Or.inl ⟨m, by omega, rfl⟩
  · rintro (⟨m, hm, rfl⟩ | rfl)
    · exact ⟨m, by omega, rfl⟩
    · exact ⟨k, by omega, rfl⟩
theorem Kdn_pred (l : List Int) (k : Nat) (hk : k < l.length) (y : Int) : Kdn l k y ↔ ((Kdn l (k + 1) y ∨ y = l.getD k 0) ∨ y = l.getD 0 0) := by
  constructor
  · rintro ⟨m, hm, h, rfl⟩
    by_cases e : m = k
    · subst e; exact Or.inl (Or.inr rfl)
    · rcases h with h | ⟨rfl, _⟩
      · exact Or.inl (Or.inl ⟨m, hm, Or.inl (by omega), rfl⟩)
      · exact Or.inr rfl
  · rintro ((⟨m, hm, h, rfl⟩ | rfl) | rfl)
    · exact ⟨m, hm, h.imp (by omega) (fun hh => ⟨hh.1, by omega⟩), rfl⟩
    · exact ⟨k, hk, Or.inl (Nat.le_refl _), rfl⟩
    · exact ⟨0, by omega, Or.inr ⟨rfl, hk⟩, rfl⟩
theorem Kall (l : List Int) (y : Int) : Kup l l.length y ↔ Kdn l 0 y := by
  constructor
  · rintro ⟨m, hm, rfl⟩; exact ⟨m, hm, Or.inl (Nat.zero_le _), rfl⟩
  · rintro ⟨m, hm, _, rfl⟩; exact ⟨m, hm, rfl⟩
set_option maxHeartbeats 3200000 in
set_option maxRecDepth 100000 in
theorem order_walk (width seed other : Int) (v : Value) (l : List Int) (w0 : World) (hv : Reads w0 v l) (h1 : width ≤ 1024) (hshort : l.length ≤ 200) : Calls Try.prog 5 #[.int .i64 width, .int .i64 seed, v, .int .i64 other] w0 fun e w' => e = .returned (.bool true) ∧ Below w0.heap.size w0 w' := by
  obtain ⟨hl, A, c, rfl, hc⟩ := hv
  have hdn := Kdn_pred l
  have hall := Kall l
  have hnil : ∀ x, ¬ Kdn l l.length x := fun x ⟨m, hm, h, _⟩ => by omega
  generalize hN : l.length = N at *
  have HN := Lib.hid hN
  clear hN
  have HC := Lib.hid hc
  have HDN := Lib.hid hdn
  have HALL := Lib.hid hall
  have HNIL := Lib.hid hnil
  clear hc hdn hall hnil
  have hS1 : 1 ≤ 8 * capN width := by have := capN_in width; omega
  have hd := fun (w : World) (F : Own) (h : Owned w0 w F) => door_new width seed h
  generalize 8 * capN width = S at *
  go_enter Try.func5, Try.ntmps5
  go_wp2_with fail
  go_at_call 7
  refine (small_calls w0).mono ?_
  rintro e w1 ⟨rfl, hb1⟩
  go_wp2_with fail
  go_at_call 8
  refine (hd _ _ ((Owned.nil w0).under hb1)).mono ?_
  rintro e w2 ⟨g, r, rfl, hr, hO2⟩
  go_wp2_with fail
  go_at_call 8
  refine (hd _ _ hO2).mono ?_
  rintro e w3 ⟨g2, r2, rfl, hr2, hO3⟩
  clear hd hO2
  have hO3 : Owned w0 w3 (r ++ r2) := by
    rw [List.append_nil] at hO3
    exact hO3.perm List.perm_append_comm
  go_wp2_with fail
  go_loopw [12] (fun x12 wr => ∃ k : Nat, k ≤ N ∧ x12 = .int .i64 k ∧ Hid (AtK w0 r2 g seed S (Kup l k) wr)) (fun x12 _ => N - (intOf x12).toNat)
  case atStart => exact ⟨0, Nat.zero_le _, rfl, _, r, hr, hO3, OnOf.zero _ _ (fun x ⟨m, hm, _⟩ => by omega)⟩
  case round =>
    obtain ⟨k, hk, rfl, hrel⟩ := hrel
    obtain ⟨B, r1, hr1, hO, hon⟩ := hrel.out
    clear hO3 hr
    by_cases hlt : k < N
    · obtain ⟨b, off, rfl, hcell⟩ := HC.out (by omega)
      have hc0 := hcell k hlt
      have cx := (hO.below.cell (p := ⟨b, off + k, none⟩) (World.block_lt_of_cell? _ _ hc0)).trans hc0
      have hon2 := hon.put hS1 _ (Kup_succ l k)
      have HO2 := Lib.hid hon2
      clear hcell hc0 hon hon2 hrel
      go_wp2_with fail
      go_at_call 13
      refine (d_put _ rfl hr1 hO).mono ?_
      rintro e w4 ⟨r4, rfl, hr4, hO4⟩
      go_wp2_with fail
      go_roundw
      case rel => exact ⟨k + 1, by omega, by go_num, _, r4, hr4, hO4, HO2.out⟩
      case measure => simp [intOf]; omega
    · obtain rfl : k = N := by omega
      have HON := Lib.hid hon
      clear hrel hon
      have hO' : Owned w0 wr (r2 ++ r1) := hO.perm List.perm_append_comm
      go_wp2_with fail
      go_loopw [13] (fun x13 wr => ∃ i : Nat, i ≤ k ∧ x13 = .int .i64 ((i : Int) - 1) ∧ Hid (AtK w0 r1 g2 seed S (Kdn l i) wr)) (fun x13 _ => (intOf x13 + 1).toNat)
      case atStart => exact ⟨k, Nat.le_refl _, by go_num, _, r2, hr2, hO', OnOf.zero _ _ HNIL.out⟩
      case round =>
        obtain ⟨i, hi, rfl, hrel⟩ := hrel
        obtain ⟨B2, r3, hr3, hO3, hon3⟩ := hrel.out
        clear hO hO' hr2
        by_cases hpos : 0 < i
        · obtain ⟨j, rfl⟩ : ∃ j, i = j + 1 := ⟨i - 1, by omega⟩
          have ej : ((j + 1 : Nat) : Int) - 1 = (j : Int) := by omega
          rw [ej]
          obtain ⟨b, off, rfl, hcell⟩ := HC.out (by omega)
          have hcx : ∀ m, m < k → ∀ W (l' : Own), Owned w0 W l' → W.cell? ⟨b, off + m, none⟩ = some (.int .i64 (l.getD m 0)) := fun m hm W l' h => (h.below.cell (p := ⟨b, off + m, none⟩) (World.block_lt_of_cell? _ _ (hcell m hm))).trans (hcell m hm)
          have HX := Lib.hid hcx
          have cx := hcx j (by omega) _ _ hO3
          have hon4 := (hon3.put hS1 _ (fun y => Iff.rfl)).put hS1 _ (HDN.out j (by omega))
          have HO4 := Lib.hid hon4
          clear hcell hcx hon3 hon4 hrel ej
          go_wp2_with fail
          go_at_call 13
          refine (d_put _ rfl hr3 hO3).mono ?_
          rintro e w4 ⟨r4, rfl, hr4, hO4⟩
          have cx0 := HX.out 0 (by omega) _ _ hO4
          rw [Nat.add_zero] at cx0
          go_wp2_with fail
          go_at_call 13
          refine (d_put _ rfl hr4 hO4).mono ?_
          rintro e w5 ⟨r5, rfl, hr5, hO5⟩
          go_wp2_with fail
          go_roundw
          case rel => exact ⟨j, by omega, by go_num, _, r5, hr5, hO5, HO4.out⟩
          case measure => simp [intOf]
        · obtain rfl : i = 0 := by omega
          have hsame := HON.out.same hon3 HALL.out
          subst hsame
          clear hrel hon3 HON
          have hO5 : Owned w0 wr (r1 ++ r3) := hO3.perm List.perm_append_comm
          obtain ⟨n, hn⟩ : ∃ n : Nat, cnt B = n := ⟨_, rfl⟩
          have HNN := Lib.hid hn
          obtain ⟨q, hq⟩ : ∃ q : Bool, hasB seed other B = q := ⟨_, rfl⟩
          have HQ := Lib.hid hq
          clear hn hq
          go_wp2_with fail
          go_at_call 15
          refine (d_ones HNN.out hr1 hO5).mono ?_
          rintro e w4 ⟨rfl, rfl⟩
          go_wp2_with fail
          go_at_call 15
          refine (d_ones HNN.out hr3 hO3).mono ?_
          rintro e w4 ⟨rfl, rfl⟩
          go_wp2_with fail
          go_at_call 17
          refine (d_has other HQ.out hr1 hO5).mono ?_
          rintro e w4 ⟨rfl, hO6⟩
          have hO7 : Owned w0 w4 (r3 ++ r1) := hO6.perm List.perm_append_comm
          go_wp2_with fail
          go_at_call 17
          refine (d_has other HQ.out hr3 hO7).mono ?_
          rintro e w5 ⟨rfl, hO8⟩
          go_wp2_with fail
          go_ret
          exact ⟨by simp, hO8.below⟩
end Go.Proofs.Ythjdmgakgpcbfaa
