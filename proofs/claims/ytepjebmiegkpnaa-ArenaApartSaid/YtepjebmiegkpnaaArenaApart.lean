/- ArenaApart: for every row of keys and of drops, no two nodes have one number, and what is held is what was put last: the walk. -/
import Derived.Test.YtepjebmiegkpnaaArena5
import Derived.Test.YtepjebmiegkpnaaReads
import Derived.Deep.DeepCutAuto
namespace Go.Proofs.Ytepjebmiegkpnaa
open Go.RowKit Go.Sep
/-- what putting a node does -/
structure PutIn (S S' : List (Option (Int × Int))) (G G' : List Nat) (id k v : Int) : Prop where
  was : look S id = none
  is : look S' id = some (k, v)
  keep : ∀ j p, look S j = some p → look S' j = some p
  lo : 1 ≤ id
  hi : id ≤ 100000
  len : S'.length ≤ S.length + 1
  lens : S'.length - G'.length = S.length - G.length + 1
theorem look_lt {S : List (Option (Int × Int))} {j : Int} {p : Int × Int} (h : look S j = some p) : 1 ≤ j ∧ j.toNat - 1 < S.length := by
  unfold look at h
  split at h
  · rename_i h1
    refine ⟨h1, ?_⟩
    rcases Nat.lt_or_ge (j.toNat - 1) S.length with h2 | h2
    · exact h2
    · rw [List.getElem?_eq_none h2] at h; cases h
  · cases h
section
variable {g most : Nat} {S : List (Option (Int × Int))} {G : List Nat} {w0 w : World} {F r : Own}
theorem Arena.lens (hr : Arena g most S G r) : G.length ≤ S.length := by
  obtain ⟨sl, gone, held, hc, ha⟩ := hr
  have := ha.held_; omega
theorem ar_put (k v : Int) (hr : Arena g most S G r) (hf : S.length < most) (hl : S.length ≤ 99000) (h : Owned w0 w (r ++ F)) :
    Calls Try.prog 10 #[.pointer (some ⟨g, 0, none⟩), .agg #[.int .i64 k, .int .i64 v]] w
      fun e w' => ∃ id S' G' r', e = .returned (.tuple #[.int .i64 id, .int .i64 0]) ∧ PutIn S S' G G' id k v ∧ Arena g most S' G' r' ∧ Owned w0 w' (r' ++ F) := by
  cases G with
  | nil =>
    refine (ar_put_new k v hr hf hl h).mono ?_
    rintro e w' ⟨r2, rfl, hr2, hO⟩
    refine ⟨_, _, _, r2, rfl, ⟨?_, ?_, ?_, by omega, by omega, by simp, by simp⟩, hr2, hO⟩
    · unfold look
      rw [if_pos (by omega), Int.toNat_natCast, Nat.add_sub_cancel, List.getElem?_eq_none (Nat.le_refl _)]
      rfl
    · unfold look
      rw [if_pos (by omega), Int.toNat_natCast, Nat.add_sub_cancel]
      simp
    · intro j p hj
      obtain ⟨h1, h2⟩ := look_lt hj
      unfold look at hj ⊢
      rw [if_pos h1] at hj ⊢
      rw [List.getElem?_append_left h2]
      exact hj
  | cons x G =>
    obtain ⟨sl, gone, held, hc, ha⟩ := hr
    obtain ⟨nx, _, _, hx1, hx2, _⟩ := ha.again k v
    obtain ⟨i, hi, hiS⟩ := ha.free x (by simp)
    refine (ar_put_again k v ⟨sl, gone, held, hc, ha⟩ (by omega) h).mono ?_
    rintro e w' ⟨r2, rfl, hr2, hO⟩
    have hlen := Arena.lens (G := x :: G) (⟨sl, gone, held, hc, ha⟩ : Arena g most S (x :: G) r)
    rw [List.length_cons] at hlen
    have hxi : x - 1 = i := by omega
    refine ⟨_, _, _, r2, rfl, ⟨?_, ?_, ?_, by omega, by omega, by simp, by rw [List.length_set, List.length_cons]; omega⟩, hr2, hO⟩
    · unfold look
      rw [if_pos (by omega), Int.toNat_natCast, hxi, hiS]
      rfl
    · unfold look
      rw [if_pos (by omega), Int.toNat_natCast, List.getElem?_set_self (by omega)]
      rfl
    · intro j p hj
      obtain ⟨h1, h2⟩ := look_lt hj
      have hne : x - 1 ≠ j.toNat - 1 := by
        intro e
        unfold look at hj
        rw [if_pos h1, ← e, hxi, hiS] at hj
        cases hj
      unfold look at hj ⊢
      rw [if_pos h1] at hj ⊢
      rw [List.getElem?_set_ne hne]
      exact hj
/-- what letting one go does -/
structure DropOut (S S' : List (Option (Int × Int))) (G G' : List Nat) (id : Int) : Prop where
  is : look S' id = none
  keep : ∀ j p, j ≠ id → look S j = some p → look S' j = some p
  len : S'.length = S.length
  lens : S'.length - G'.length + 1 = S.length - G.length
theorem ar_let {id k v : Int} (hl : look S id = some (k, v)) (hr : Arena g most S G r) (h : Owned w0 w (r ++ F)) :
    Calls Try.prog 11 #[.pointer (some ⟨g, 0, none⟩), .int .i64 id] w
      fun e w' => ∃ S' G' r', e = .returned (.int .i64 0) ∧ DropOut S S' G G' id ∧ Arena g most S' G' r' ∧ Owned w0 w' (r' ++ F) := by
  obtain ⟨h1, h2⟩ := look_lt hl
  refine (ar_drop hl hr h).mono ?_
  rintro e w' ⟨r2, rfl, hr2, hO⟩
  have hlen := hr2.lens
  rw [List.length_set, List.length_cons] at hlen
  refine ⟨_, _, r2, rfl, ⟨?_, ?_, by rw [List.length_set], by rw [List.length_set, List.length_cons]; omega⟩, hr2, hO⟩
  · unfold look
    rw [if_pos h1, List.getElem?_set_self h2]
    rfl
  · intro j p hj hjp
    obtain ⟨h3, h4⟩ := look_lt hjp
    unfold look at hjp ⊢
    rw [if_pos h3] at hjp ⊢
    rw [List.getElem?_set_ne (by omega)]
    exact hjp
end
/-- the numbers that were given: what is held is what was put under it; what was let go is below nought -/
def IdsOk (K : List Int) (S : List (Option (Int × Int))) (ids : List Int) : Prop :=
  ∀ j, j < ids.length → (look S (ids.getD j 0) = some (K.getD j 0, (j : Int)) ∨ ids.getD j 0 < 0) ∧ -100000 ≤ ids.getD j 0 ∧ ids.getD j 0 ≤ 100000
theorem IdsOk.put {K : List Int} {S S' : List (Option (Int × Int))} {G G' : List Nat} {ids : List Int} {id : Int} (h : IdsOk K S ids) (hp : PutIn S S' G G' id (K.getD ids.length 0) (ids.length : Int)) : IdsOk K S' (ids ++ [id]) := by
  intro j hj
  rw [List.length_append, List.length_singleton] at hj
  by_cases e : j < ids.length
  · have e1 : (ids ++ [id]).getD j 0 = ids.getD j 0 := by simp [List.getD, List.getElem?_append_left e]
    rw [e1]
    obtain ⟨h1, h2, h3⟩ := h j e
    exact ⟨h1.imp (hp.keep _ _) (fun h => h), h2, h3⟩
  · obtain rfl : j = ids.length := by omega
    have e1 : (ids ++ [id]).getD ids.length 0 = id := by simp [List.getD]
    rw [e1]
    have := hp.lo
    exact ⟨.inl hp.is, by omega, hp.hi⟩
theorem IdsOk.apart {K : List Int} {S : List (Option (Int × Int))} {ids : List Int} {id : Int} (h : IdsOk K S ids) (hn : look S id = none) (h1 : 1 ≤ id) {j : Nat} (hj : j < ids.length) : (ids.getD j 0 == id) = false := by
  have hne : ids.getD j 0 ≠ id := by
    rintro e
    rcases (h j hj).1 with h2 | h2
    · rw [e, hn] at h2; cases h2
    · omega
  simpa using hne
theorem IdsOk.drop {K : List Int} {S S' : List (Option (Int × Int))} {G G' : List Nat} {ids : List Int} (h : IdsOk K S ids) {q : Nat} (hq : q < ids.length) (h1 : 1 ≤ ids.getD q 0) (hd : DropOut S S' G G' (ids.getD q 0)) : IdsOk K S' (ids.set q (-(ids.getD q 0))) := by
  intro j hj
  rw [List.length_set] at hj
  obtain ⟨h2, h3, h4⟩ := h j hj
  by_cases e : q = j
  · subst e
    have e1 : (ids.set q (-(ids.getD q 0))).getD q 0 = -(ids.getD q 0) := by simp [List.getD, hq]
    rw [e1]
    exact ⟨.inr (by omega), by omega, by omega⟩
  · have e1 : (ids.set q (-(ids.getD q 0))).getD j 0 = ids.getD j 0 := by simp [List.getD, List.getElem?_set_ne e]
    rw [e1]
    refine ⟨?_, h3, h4⟩
    rcases h2 with h2 | h2
    · refine .inl (hd.keep _ _ ?_ h2)
      intro e2
      rw [e2] at h2
      rcases (h q hq).1 with h5 | h5
      · rw [h2] at h5
        simp only [Option.some.injEq, Prod.mk.injEq] at h5
        omega
      · omega
    · exact .inr h2
theorem and_bounds (x : Int) (m : Nat) (hm : m ≤ 1000000) : 0 ≤ bits .and .i64 x (m : Int) ∧ bits .and .i64 x (m : Int) ≤ m := by
  have e : bits .and .i64 x (m : Int) = IntKind.i64.wrap ((BitVec.ofInt 64 x &&& BitVec.ofInt 64 (m : Int)).toNat : Int) := rfl
  rw [e, BitVec.toNat_and, BitVec.ofInt_natCast, BitVec.toNat_ofNat, Nat.mod_eq_of_lt (a := m) (by omega)]
  have h : (BitVec.ofInt 64 x).toNat &&& m ≤ m := Nat.and_le_right
  rw [IntKind.wrap_i64]
  omega
theorem pick_lt (d : Int) (n : Nat) : ∃ k : Nat, k < n + 1 ∧ (bits .and .i64 d 1023).tmod ((n : Int) + 1) = (k : Int) := by
  have h := (and_bounds d 1023 (by omega)).1
  have h1 := Int.tmod_nonneg ((n : Int) + 1) h
  have h2 := Int.tmod_lt_of_pos (bits .and .i64 d ((1023 : Nat) : Int)) (show (0 : Int) < (n : Int) + 1 by omega)
  refine ⟨((bits .and .i64 d ((1023 : Nat) : Int)).tmod ((n : Int) + 1)).toNat, by omega, ?_⟩
  exact (Int.toNat_of_nonneg h1).symm
theorem row_open1 {e : TypeId} {n c : Nat} {A : Option Addr} {ids : List Int} {rr : Own} (h : Row e 1 (.slice A n c) n (ints ids) rr) (hn : 0 < n) :
    ∃ g cur, A = some ⟨g, 0, none⟩ ∧ rr = [(g, .cells cur e (0, 0))] ∧ (∀ j, j < n → cur[j]? = some (.int .i64 (ids.getD j 0))) ∧
      ∀ j y, j < n → Row e 1 (.slice A n c) n (ints (ids.set j y)) [(g, .cells (cur.setIfInBounds j (.int .i64 y)) e (0, 0))] := by
  obtain ⟨hl, ⟨_, h0, _⟩ | ⟨g, cap, cur, hv, rfl, h1, h2, h3, h4⟩⟩ := h
  · omega
  · simp only [Value.slice.injEq] at hv
    obtain ⟨rfl, _, rfl⟩ := hv
    rw [ints_len, Nat.mul_one] at hl
    rw [Nat.mul_one] at h4 h3
    refine ⟨g, cur, rfl, rfl, fun j hj => ?_, fun j y hj => ⟨by rw [ints_len, List.length_set]; omega, .inr ⟨g, c, _, rfl, rfl, h1, h2, by simp; omega, ?_⟩⟩⟩
    · have h5 : cur[j]? = (cur.toList.take n)[j]? := by rw [List.getElem?_take, if_pos hj]; simp
      rw [h5, h4]
      simp [ints, List.getD, show j < ids.length by omega]
    · rw [Nat.mul_one, Array.toList_setIfInBounds, List.take_set, h4]
      simp [ints, List.map_set]
def ApartRel (w0 : World) (F : Own) (g i gone : Nat) (K : List Int) (v : Value) (w : World) : Prop :=
  ∃ S G r rr ids, Row 3 1 v i (ints ids) rr ∧ Arena g 1000 S G r ∧ Owned w0 w (rr ++ (r ++ F)) ∧ IdsOk K S ids ∧ ids.length = i ∧ S.length ≤ i ∧ S.length - G.length + gone = i
set_option maxHeartbeats 800000 in
set_option maxRecDepth 100000 in
theorem apart_out (v u : Value) (K D : List Int) (w0 : World) (hv : Reads w0 v K) (hu : Reads w0 u D) (h1 : 200 < K.length ∨ K.length ≤ 200 ∧ 200 < D.length) : Calls Try.prog 3 #[v, u] w0 fun e w' => e = .returned (.bool true) ∧ Below w0.heap.size w0 w' := by
  obtain ⟨hl, A, c, rfl, hc⟩ := hv
  obtain ⟨hl2, A2, c2, rfl, hc2⟩ := hu
  clear hc hc2
  generalize K.length = N at *
  generalize D.length = M at *
  rcases h1 with h1 | ⟨h1, h2⟩
  all_goals
    go_enter Try.func3, Try.ntmps3
    go_wp2_with fail
    go_at_call 8
    refine (small_calls _).mono ?_
    rintro e w1 ⟨rfl, hb1⟩
    obtain ⟨F, hO1⟩ : ∃ F, Owned w0 w1 F := ⟨[], (Owned.nil w0).under hb1⟩
    go_wp2_with fail
    go_at_call 9
    refine (ar_new 1000 hO1).mono ?_
    rintro e w2 ⟨g, r, rfl, hr, hO2⟩
    go_wp2_with fail
    go_ret
    exact ⟨rfl, hO2.below⟩
set_option maxHeartbeats 3200000 in
set_option maxRecDepth 100000 in
theorem apart_walk (v u : Value) (K D : List Int) (w0 : World) (hv : Reads w0 v K) (hu : Reads w0 u D) (h1 : K.length ≤ 200) (h2 : D.length ≤ 200) : Calls Try.prog 3 #[v, u] w0 fun e w' => e = .returned (.bool true) ∧ Below w0.heap.size w0 w' := by
  have hm : mostOf 1000 = 1000 := rfl
  obtain ⟨hl, A, c, rfl, hc⟩ := hv
  obtain ⟨hl2, A2, c2, rfl, hc2⟩ := hu
  generalize hN : K.length = N at *
  generalize hM : D.length = M at *
  clear hN hM
  have HC := Lib.hid hc
  have HD := Lib.hid hc2
  clear hc hc2
  go_enter Try.func3, Try.ntmps3
  go_wp2_with fail
  go_at_call 8
  refine (small_calls _).mono ?_
  rintro e w1 ⟨rfl, hb1⟩
  obtain ⟨F, hO1⟩ : ∃ F, Owned w0 w1 F := ⟨[], (Owned.nil w0).under hb1⟩
  go_wp2_with fail
  go_at_call 9
  refine (ar_new 1000 hO1).mono ?_
  rintro e w2 ⟨g, r, rfl, hr, hO2⟩
  rw [hm] at hr
  go_wp2_with fail
  go_loopw [7, 8, 9] (fun x7 x8 x9 wr => ∃ i : Nat, i ≤ N ∧ x9 = .int .i64 i ∧ ∃ q : Nat, q ≤ i ∧ x8 = .int .i64 q ∧ Hid (ApartRel w0 F g i q K x7 wr)) (fun _ _ x9 _ => N - (intOf x9).toNat)
  case atStart => exact ⟨0, Nat.zero_le _, rfl, 0, Nat.le_refl _, rfl, [], [], r, [], [], Row.nil _ _, hr, hO2, fun j hj => by simp at hj, rfl, Nat.le_refl _, rfl⟩
  case round =>
    obtain ⟨i, hi, rfl, q, hq, rfl, hrel⟩ := hrel
    obtain ⟨S, G, r1, rr, ids, hrow, hr1, hO3, hok, hidl, hSi, hcount⟩ := hrel.out
    clear hrel hr hO2
    by_cases hlt : i < N
    · obtain ⟨b, off, rfl, hcell⟩ := HC.out (by omega)
      have hc0 := hcell i hlt
      have hbl := World.block_lt_of_cell? _ _ hc0
      have hcx : ∀ W l', Owned w0 W l' → W.cell? ⟨b, off + i, none⟩ = some (.int .i64 (K.getD i 0)) := fun W l' h => (h.below.cell (p := ⟨b, off + i, none⟩) hbl).trans hc0
      clear hc0
      have HX := Lib.hid hcx
      have HC2 := Lib.hid hcell
      clear hcx hcell
      have cx := HX.out _ _ hO3
      generalize hkx : K.getD i 0 = kx at *
      have HK := Lib.hid hkx
      clear hkx
      obtain ⟨A3, c3, rfl⟩ := hrow.slice
      go_wp2_with fail
      go_at_call 10
      refine (ar_put kx i hr1 (by omega) (by omega) hO3.comm).mono ?_
      rintro e w3 ⟨id, S2, G2, r2, rfl, hput, hr2, hO4⟩
      have hrd := reads_of_row (l := ids) (by rw [hidl]; exact hrow) (by omega) hO4.comm
      go_wp2_with fail
      go_loopw [12] (fun x12 wr => ∃ j : Nat, j ≤ i ∧ x12 = .int .i64 j ∧ w3 = wr) (fun x12 _ => i - (intOf x12).toNat)
      case atStart => exact ⟨0, Nat.zero_le _, rfl, rfl⟩
      case round =>
        obtain ⟨j, hj, rfl, rfl⟩ := hrel
        by_cases hlt2 : j < i
        · have hap := hok.apart hput.was hput.lo (show j < ids.length by omega)
          obtain ⟨_, A4, c4, hv4, hcell⟩ := hrd
          simp only [Value.slice.injEq] at hv4
          obtain ⟨rfl, hq4, rfl⟩ := hv4
          clear hq4
          obtain ⟨b4, o4, rfl, hc4⟩ := hcell (by omega)
          have ci := hc4 j (by omega)
          clear hc4 hcell hok hput
          generalize ids.getD j 0 = y at *
          go_wp2_with fail
          go_roundw
          case rel => exact ⟨j + 1, by omega, by go_num, trivial⟩
          case measure => simp [intOf]; omega
        · obtain rfl : i = j := by omega
          clear hrd hj hlt2
          have hm1 : i + 1 ≤ maxLen := by unfold maxLen; omega
          have hm2 : (i + 1) * 8 ≤ 140737488355328 := by omega
          have hO4' := hO4.comm
          go_wp2_with (at_builtin; refine append_one rfl (.tmp 67) (.tmp 69) 22 rfl 3 (.int .i64 0) 8 Try.underlying22 info3 rfl _ i _ rr _ _ rfl hrow hO4' rfl rfl hm1 hm2 ?_)
          intro v2 rr2 w4 hrow2 hO5
          have hok2 := IdsOk.put (id := id) (S' := S2) (G := G) (G' := G2) hok (by rw [hidl, HK.out]; exact hput)
          have hrow3 : Row 3 1 v2 (i + 1) (ints (ids ++ [id])) rr2 := by simpa [ints] using hrow2
          have hlen2 : (ids ++ [id]).length = i + 1 := by rw [List.length_append, hidl]; rfl
          have hS2 : S2.length ≤ i + 1 := by have := hput.len; omega
          have hcount2 : S2.length - G2.length + q = i + 1 := by have := hput.lens; omega
          generalize ids ++ [id] = ids2 at hok2 hrow3 hlen2
          clear hput hok hrow hrow2 hidl hSi hcount hr1 hO3 hO4 hO4' cx
          obtain ⟨A5, c5, rfl⟩ := hrow3.slice
          go_upto_region 19 with (fail)
          go_cut [82] (fun x82 wc => w4 = wc ∧ ∃ bb : Bool, x82 = .bool bb ∧ (bb = true → i < M))
          case first =>
            by_cases hM : i < M
            · obtain ⟨b6, o6, rfl, hc6⟩ := HD.out (by omega)
              have hd0 := hc6 i hM
              have hbl6 := World.block_lt_of_cell? _ _ hd0
              have hd : w4.cell? ⟨b6, o6 + i, none⟩ = some (.int .i64 (D.getD i 0)) := (hO5.below.cell (p := ⟨b6, o6 + i, none⟩) hbl6).trans hd0
              clear hc6 hd0
              go_wp2_with fail
              go_meet
              case rel => exact ⟨rfl, _, rfl, fun _ => hM⟩
            · go_wp2_with fail
              go_meet
              case rel => exact ⟨rfl, false, rfl, fun h => by cases h⟩
          case rest =>
            obtain ⟨rfl, bb, rfl, hbb⟩ := hcut
            go_upto_if 82 with (fail)
            go_cut [8] (fun x8 wc => ∃ q2 : Nat, q2 ≤ i + 1 ∧ x8 = .int .i64 q2 ∧ Hid (ApartRel w0 F g (i + 1) q2 K (.slice A5 (i + 1) c5) wc))
            case first =>
              cases bb with
              | false =>
                go_wp2_with fail
                go_meet
                case rel => exact ⟨q, by omega, rfl, S2, G2, r2, rr2, ids2, hrow3, hr2, hO5, hok2, hlen2, hS2, hcount2⟩
              | true =>
                have hM := hbb rfl
                obtain ⟨b6, o6, rfl, hc6⟩ := HD.out (by omega)
                have hd0 := hc6 i hM
                have hbl6 := World.block_lt_of_cell? _ _ hd0
                have hd : w4.cell? ⟨b6, o6 + i, none⟩ = some (.int .i64 (D.getD i 0)) := (hO5.below.cell (p := ⟨b6, o6 + i, none⟩) hbl6).trans hd0
                clear hc6 hd0
                generalize D.getD i 0 = d at *
                obtain ⟨kk, hkk, hke⟩ := pick_lt (d / 2) i
                obtain ⟨g5, cur5, rfl, rfl, hcur, hset⟩ := row_open1 hrow3 (by omega)
                have hck := hcur kk hkk
                have hset2 := hset kk (-(ids2.getD kk 0)) hkk
                obtain ⟨hokk, hy1, hy2⟩ := hok2 kk (by omega)
                clear hcur hset
                have hcy : ∀ W l', Owned w0 W ((g5, .cells cur5 3 (0, 0)) :: l') → W.cell? ⟨g5, kk, none⟩ = some (.int .i64 (ids2.getD kk 0)) := fun W l' h => (Owned.cell h kk).trans hck
                have hdrop := fun S' G' (h1 : 1 ≤ ids2.getD kk 0) (hd : DropOut S2 S' G2 G' (ids2.getD kk 0)) => hok2.drop (by omega) h1 hd
                generalize ids2.getD kk 0 = y at *
                have HY := Lib.hid hcy
                have HS := Lib.hid hset2
                have HDR := Lib.hid hdrop
                clear hcy hck hset2 hdrop
                have cy := HY.out _ _ hO5
                go_upto_region 21 with (fail)
                clear hke
                by_cases hy : 0 < y
                · have hl : look S2 y = some (K.getD kk 0, (kk : Int)) := hokk.resolve_right (by omega)
                  have HL := Lib.hid hl
                  clear hokk hl
                  have hO5' : Owned w0 w4 (r2 ++ ([(g5, .cells cur5 3 (0, 0))] ++ F)) := Owned.comm (a := [(g5, .cells cur5 3 (0, 0))]) hO5
                  go_wp2_with fail
                  go_at_call 11
                  refine (ar_let HL.out hr2 hO5').mono ?_
                  rintro e w5 ⟨S3, G3, r3, rfl, hd3, hr3, hO6⟩
                  have cy5 := HY.out _ _ (Owned.comm (b := [(g5, .cells cur5 3 (0, 0))]) hO6)
                  go_wp2_with fail
                  go_at_call 11
                  refine (ar_drop_none hd3.is hr3 hO6).mono ?_
                  rintro e w6 ⟨r4, rfl, hr4, hO7⟩
                  have hO7' := Owned.comm (b := [(g5, .cells cur5 3 (0, 0))]) hO7
                  have cy6 := HY.out _ _ hO7'
                  have f6 : w6.frozen? ⟨g5, kk, none⟩ = false := Owned.frozen hO7' kk
                  have hg6 : g5 < w6.heap.size := Owned.lt hO7'
                  have hok4 := HDR.out _ _ (by omega) hd3
                  have hS3 := hd3.len
                  have hc3 := hd3.lens
                  clear hd3 HL
                  go_wp2_with fail
                  go_meet
                  case rel => exact ⟨q + 1, by omega, by go_num, S3, G3, r4, _, _, HS.out, hr4, Owned.set hO7' kk _, hok4, by rw [List.length_set]; exact hlen2, by omega, by omega⟩
                · go_wp2_with fail
                  go_meet
                  case rel => exact ⟨q, by omega, rfl, S2, G2, r2, _, ids2, hrow3, hr2, hO5, hok2, hlen2, hS2, hcount2⟩
            case rest =>
              clear hr2 hO5 hok2 hlen2 hS2 hcount2 hrow3 hbb
              obtain ⟨q2, hq2, rfl, hrel⟩ := hcut
              obtain ⟨S, G, r1, rr, ids, hrow, hr1, hO3, hok, hidl, hSi, hcount⟩ := hrel.out
              clear hrel
              go_wp2_with fail
              go_loopw [14] (fun x14 wr => ∃ j : Nat, j ≤ i + 1 ∧ x14 = .int .i64 j ∧ Hid (Owned w0 wr (rr ++ (r1 ++ F)))) (fun x14 _ => i + 1 - (intOf x14).toNat)
              case atStart => exact ⟨0, Nat.zero_le _, rfl, hO3⟩
              case round =>
                clear hO3
                obtain ⟨j, hj, rfl, hrel⟩ := hrel
                have hO3 := hrel.out
                clear hrel
                by_cases hlt2 : j < i + 1
                · obtain ⟨hokj, hy1, hy2⟩ := hok j (by omega)
                  obtain ⟨g5, cur5, rfl, rfl, hcur, _⟩ := row_open1 hrow (by omega)
                  have cy : wr.cell? ⟨g5, j, none⟩ = some (.int .i64 (ids.getD j 0)) := (Owned.cell hO3 j).trans (hcur j hlt2)
                  clear hcur
                  generalize ids.getD j 0 = y at *
                  by_cases hy : 0 < y
                  · have hl : look S y = some (K.getD j 0, (j : Int)) := hokj.resolve_right (by omega)
                    have HL := Lib.hid hl
                    clear hokj hl
                    have hO3' : Owned w0 wr (r1 ++ ([(g5, .cells cur5 3 (0, 0))] ++ F)) := Owned.comm (a := [(g5, .cells cur5 3 (0, 0))]) hO3
                    go_wp2_with fail
                    go_at_call 12
                    refine (ar_get HL.out hr1 hO3').mono ?_
                    rintro e w5 ⟨rfl, hO4⟩
                    have hc0 := HC2.out j (by omega)
                    have hblj := World.block_lt_of_cell? _ _ hc0
                    have cj : w5.cell? ⟨b, off + j, none⟩ = some (.int .i64 (K.getD j 0)) := (hO4.below.cell (p := ⟨b, off + j, none⟩) hblj).trans hc0
                    have hb5 := World.block_lt_of_cell? _ _ cj
                    clear hc0 hblj HL
                    generalize K.getD j 0 = kj at *
                    go_wp2_with fail
                    go_quiet (fail)
                    go_wp2_with fail
                    exact ⟨⟨j + 1, by omega, by go_num, Owned.comm (b := [(g5, .cells cur5 3 (0, 0))]) ((hO4.alloc_ _).drewN _)⟩, by simp [intOf]; omega⟩
                  · go_wp2_with fail
                    go_roundw
                    case rel => exact ⟨j + 1, by omega, by go_num, hO3⟩
                    case measure => simp [intOf]; omega
                · have e2 : ((S.length - G.length : Nat) : Int) = (i : Int) + 1 - (q2 : Int) := by omega
                  go_wp2_with fail
                  go_at_call 13
                  refine (ar_len hr1 hO3.comm).mono ?_
                  rintro e w5 ⟨rfl, rfl⟩
                  rw [e2]
                  clear e2
                  go_wp2_with fail
                  exact ⟨⟨i + 1, by omega, by go_num, q2, by omega, rfl, S, G, r1, rr, ids, hrow, hr1, hO3, hok, hidl, hSi, hcount⟩, by simp [intOf]; omega⟩
    · go_wp2_with fail
      go_ret
      exact ⟨rfl, hO3.below⟩
end Go.Proofs.Ytepjebmiegkpnaa
