/- The document's deque: find, Of, All and what stands on it. -/
import Derived.Test.YtlnokijfmkldkaaRefDq1
import Derived.Test.YtlnokijfmkldkaaDq11
namespace Go.Proofs.Ytlnokijfmkldkaa
open Go.RowKit Go.Sep DqPure
inductive FindR (m : Nat) (st : Sts) (id : Int) : Int → Int → Prop
  | none (ha : Absent m st id) : FindR m st id (-1) (-1)
  | some (i j : Nat) (hi : i < m) (hj : j < (st i).length) (he : ((st i).getD j (0, 0)).1 = id) : FindR m st id (i : Int) (j : Int)
def rowAt (m : Nat) (st : Sts) (k : Int) : List (Int × Int) := if Good m k then st k.toNat else []
theorem rowAt_nat {m k : Nat} (st : Sts) (h : k < m) : rowAt m st (k : Int) = st k := by
  unfold rowAt
  rw [if_pos ⟨by omega, by omega⟩, Int.toNat_natCast]
theorem rowAt_bad {m : Nat} {k : Int} (st : Sts) (h : ¬ Good m k) : rowAt m st k = [] := by
  unfold rowAt
  rw [if_neg h]
section
variable {g m : Nat} {st : Sts} {r F : Own} {w0 w : World}
set_option maxHeartbeats 3200000 in
set_option maxRecDepth 100000 in
theorem rd_find (id : Int) (h : RdAt g m st r) (hm : m ≤ 16) (hlen : ∀ i, i < m → (st i).length ≤ 1000000) (hO : Owned w0 w (r ++ F)) :
    Calls Try.prog 35 #[.pointer (some ⟨g, 0, none⟩), .int .i64 id] w fun e w' => ∃ a b, e = .returned (.tuple #[.int .i64 a, .int .i64 b]) ∧ FindR m st id a b ∧ w' = w := by
  obtain ⟨v, q, vs, os, rfl, hI⟩ := h
  obtain ⟨A, c, rfl, hc, hrows⟩ := rd_reads (w0 := w0) (g := g) hI
  have c0 := hc _ _ hO
  have HROWS := Lib.hid (show 0 < m → ∃ b, A = some ⟨b, 0, none⟩ ∧ ∀ i, i < m → ∃ Ai ci, w.cell? ⟨b, i, none⟩ = some (.slice Ai (st i).length ci) ∧ (0 < (st i).length → ∃ bi, Ai = some ⟨bi, 0, none⟩ ∧ ∀ j, j < (st i).length → w.cell? ⟨bi, j * 2, none⟩ = some (.int .i64 ((st i).getD j (0, 0)).1)) from fun hp => by
    obtain ⟨b, rfl, hr⟩ := hrows hp
    refine ⟨b, rfl, fun i hi => ?_⟩
    obtain ⟨Ai, ci, -, h1, h2⟩ := hr i hi
    refine ⟨Ai, ci, h1 _ _ hO, fun hl => ?_⟩
    obtain ⟨bi, rfl, h3⟩ := h2 hl
    exact ⟨bi, rfl, fun j hj => (h3 _ _ hO j hj).1⟩)
  have HL := Lib.hid hlen
  clear hc hrows hI hO hlen
  go_enter Try.func35, Try.ntmps35
  go_wp2_with fail
  go_loopw [6] (fun x6 wr => ∃ i : Nat, i ≤ m ∧ x6 = .int .i64 (i : Int) ∧ wr = w ∧ Hid (∀ i', i' < i → ∀ p ∈ st i', p.1 ≠ id)) (fun x6 _ => m - (intOf x6).toNat)
  case atStart => exact ⟨0, Nat.zero_le _, rfl, rfl, Lib.hid (fun i' h => absurd h (Nat.not_lt_zero _))⟩
  case round =>
    obtain ⟨i, hi, rfl, rfl, hno⟩ := hrel
    by_cases him : i < m
    · obtain ⟨b, rfl, hr⟩ := HROWS.out (by omega)
      obtain ⟨Ai, ci, ci0, hit⟩ := hr i him
      have hli := HL.out i him
      have HIT := Lib.hid hit
      obtain ⟨n, hn⟩ : ∃ n, (st i).length = n := ⟨_, rfl⟩
      have HN := Lib.hid hn
      rw [hn] at ci0 hli
      clear hit hr hn HROWS HL
      go_wp2_with fail
      go_loopw [7] (fun x7 w' => ∃ j : Nat, j ≤ n ∧ x7 = .int .i64 (j : Int) ∧ w' = wr ∧ Hid (∀ j', j' < j → ((st i).getD j' (0, 0)).1 ≠ id)) (fun x7 _ => n - (intOf x7).toNat)
      case atStart => exact ⟨0, Nat.zero_le _, rfl, rfl, Lib.hid (fun i' h => absurd h (Nat.not_lt_zero _))⟩
      case round =>
        obtain ⟨j, hj, rfl, rfl, hnj⟩ := hrel
        by_cases hjn : j < n
        · obtain ⟨bi, rfl, hcell⟩ := HIT.out (by rw [HN.out]; omega)
          have cx := hcell j (by rw [HN.out]; exact hjn)
          obtain ⟨y, hy⟩ : ∃ y, ((st i).getD j (0, 0)).1 = y := ⟨_, rfl⟩
          rw [hy] at cx
          have HY := Lib.hid hy
          clear hcell hy HIT
          by_cases he : y = id
          · subst he
            go_wp2_with fail
            go_ret2
            exact ⟨_, _, rfl, .some i j him (by rw [HN.out]; exact hjn) HY.out, rfl⟩
          · have he1 : decide (y = id) = false := by simpa using he
            have he2 : (y == id) = false := by simpa using he
            have HN2 := Lib.hid (show ∀ j', j' < j + 1 → ((st i).getD j' (0, 0)).1 ≠ id from fun j' hj' => by
              by_cases e : j' = j
              · subst e; rw [HY.out]; exact he
              · exact hnj.out j' (by omega))
            clear hnj HY he
            go_wp2_with fail
            go_roundw
            case rel => exact ⟨j + 1, by omega, by go_num, trivial, HN2⟩
            case measure => simp [intOf]; omega
        · obtain rfl : j = n := by omega
          have HN2 := Lib.hid (show ∀ i', i' < i + 1 → ∀ p ∈ st i', p.1 ≠ id from fun i' hi' p hp => by
            by_cases e : i' = i
            · subst e
              obtain ⟨t, ht, rfl⟩ := List.getElem_of_mem hp
              have h1 := hnj.out t (by rw [← HN.out]; exact ht)
              simpa [List.getD, ht] using h1
            · exact hno.out i' (by omega) p hp)
          clear hnj hno HIT HN
          go_wp2_with fail
          go_roundw
          case rel => exact ⟨i + 1, by omega, by go_num, trivial, HN2⟩
          case measure => simp [intOf]; omega
    · obtain rfl : i = m := by omega
      clear HROWS HL
      go_wp2_with fail
      go_ret2
      exact ⟨_, _, rfl, .none (fun k hk p hp => hno.out k hk p hp), rfl⟩
theorem of_find {id a b : Int} (h : FindR m st id a b) : (a < 0 ∧ a = -1 ∧ b = -1 ∧ Absent m st id) ∨ ∃ i j : Nat, a = (i : Int) ∧ b = (j : Int) ∧ i < m ∧ j < (st i).length ∧ ((st i).getD j (0, 0)).1 = id := by
  cases h with
  | none ha => exact .inl ⟨by omega, rfl, rfl, ha⟩
  | some i j hi hj he => exact .inr ⟨i, j, rfl, rfl, hi, hj, he⟩
theorem split_at (l : List (Int × Int)) {j : Nat} (h : j < l.length) {id : Int} (he : (l.getD j (0, 0)).1 = id) : l = l.take j ++ (id, (l.getD j (0, 0)).2) :: l.drop (j + 1) := by
  have e : l.drop j = l[j] :: l.drop (j + 1) := List.drop_eq_getElem_cons h
  have e1 : l.getD j (0, 0) = l[j] := by simp [List.getD, h]
  rw [e1] at he ⊢
  rw [← he]
  show l = l.take j ++ l[j] :: l.drop (j + 1)
  rw [← e, List.take_append_drop]
set_option maxHeartbeats 1600000 in
theorem rd_of (id : Int) (h : RdAt g m st r) (hm : m ≤ 16) (hlen : ∀ i, i < m → (st i).length ≤ 1000000) (hO : Owned w0 w (r ++ F)) :
    Calls Try.prog 26 #[.pointer (some ⟨g, 0, none⟩), .int .i64 id] w fun e w' => ∃ a z, e = .returned (.tuple #[.int .i64 a, .int .i64 z]) ∧ OfR m st id a z ∧ Below w.heap.size w w' := by
  have hf := rd_find id h hm hlen hO
  obtain ⟨v, q, vs, os, rfl, hI⟩ := h
  obtain ⟨A, c, rfl, hc, hrows⟩ := rd_reads (w0 := w0) (g := g) hI
  have c0 := hc _ _ hO
  have c0d := hc _ _ hO.drew
  go_enter Try.func26, Try.ntmps26
  go_wp2_with fail
  go_at_call 35
  refine hf.mono ?_
  rintro e w2 ⟨a, b, rfl, hF, rfl⟩
  rcases of_find hF with ⟨-, rfl, rfl, ha⟩ | ⟨i, j, rfl, rfl, hi, hj, he⟩
  · clear hF hf hc hrows hI hO
    go_wp2_with fail
    go_ret2
    exact ⟨_, _, rfl, .none ha, Below.refl _ _⟩
  · obtain ⟨b1, rfl, hr⟩ := hrows (by omega)
    obtain ⟨Ai, ci, -, h1, h2⟩ := hr i hi
    obtain ⟨bi, rfl, h3⟩ := h2 (by omega)
    have d1 := h1 _ _ hO
    have d2 := (h3 _ _ hO j hj).2
    have hs := split_at (st i) hj he
    have HS := Lib.hid hs
    have hlt := hlen i hi
    obtain ⟨z, hz⟩ : ∃ z, ((st i).getD j (0, 0)).2 = z := ⟨_, rfl⟩
    rw [hz] at d2 HS
    obtain ⟨n, hn⟩ : ∃ n, (st i).length = n := ⟨_, rfl⟩
    rw [hn] at d1 hj hlt
    clear hF hf hc hrows hI hO hr h1 h2 h3 he hs hz hn hlen c0d
    go_wp2_with fail
    go_region_with (fail)
    all_goals go_wp2_with fail
    all_goals go_ret2
    all_goals exact ⟨_, _, rfl, .some i _ _ z hi HS.out, (Below.refl _ _).drew⟩
end
end Go.Proofs.Ytlnokijfmkldkaa
