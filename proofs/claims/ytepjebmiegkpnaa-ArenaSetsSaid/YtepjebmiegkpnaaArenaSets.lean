/- ArenaSets: for every number of nodes, a node that is set is that one, and all others stay: the walk. -/
import Derived.Test.YtepjebmiegkpnaaArena5
namespace Go.Proofs.Ytepjebmiegkpnaa
open Go.RowKit Go.Sep
/-- the nodes that are put: 0, 1, .. -/
def nodes (n : Nat) : List (Option (Int × Int)) := (List.range n).map (fun i : Nat => some ((i : Int), 7))
theorem nodes_len (n : Nat) : (nodes n).length = n := by simp [nodes]
theorem nodes_succ (n : Nat) : nodes (n + 1) = nodes n ++ [some ((n : Int), 7)] := by simp [nodes, List.range_succ]
theorem nodes_get {n i : Nat} (h : i < n) : (nodes n)[i]? = some (some ((i : Int), 7)) := by simp [nodes, h]
theorem look_nodes {n j : Nat} (h1 : 1 ≤ j) (h2 : j ≤ n) : look (nodes n) j = some (((j - 1 : Nat) : Int), 7) := by
  unfold look
  rw [if_pos (by omega), Int.toNat_natCast, nodes_get (by omega)]
  rfl
theorem look_nodes_none {n : Nat} {id : Int} (h : id < 1 ∨ (n : Int) < id) : look (nodes n) id = none := by
  unfold look
  split
  · rw [List.getElem?_eq_none (by rw [nodes_len]; omega)]; rfl
  · rfl
/-- the nodes behind the setting -/
def setTo (n : Nat) (id : Int) (p : Int × Int) : List (Option (Int × Int)) := if 1 ≤ id ∧ id ≤ n then (nodes n).set (id.toNat - 1) (some p) else nodes n
theorem setTo_len (n : Nat) (id : Int) (p : Int × Int) : (setTo n id p).length = n := by
  unfold setTo; split <;> simp [nodes_len]
theorem look_setTo {n j : Nat} {id : Int} {p : Int × Int} (h1 : 1 ≤ j) (h2 : j ≤ n) : look (setTo n id p) j = some (if (j : Int) = id then p else (((j - 1 : Nat) : Int), 7)) := by
  unfold setTo
  by_cases h : (j : Int) = id
  · subst h
    rw [if_pos ⟨by omega, by omega⟩, if_pos rfl]
    unfold look
    rw [if_pos (by omega), List.getElem?_set_self (by rw [nodes_len]; omega)]
    rfl
  · rw [if_neg h]
    split
    · unfold look
      rw [if_pos (by omega), Int.toNat_natCast, List.getElem?_set_ne (by omega), nodes_get (by omega)]
      rfl
    · exact look_nodes h1 h2
set_option maxHeartbeats 800000 in
theorem sets_out (n id k v : Int) (w0 : World) (h1 : n < 0 ∨ 50 < n) : Calls Try.prog 6 #[.int .i64 n, .int .i64 id, .agg #[.int .i64 k, .int .i64 v]] w0 fun e w' => e = .returned (.bool true) ∧ Below w0.heap.size w0 w' := by
  have hb0 := (Owned.nil w0).alloc_ (.cells #[.int .i64 k, .int .i64 v] 30)
  rcases h1 with h1 | h1
  all_goals
    go_enter Try.func6, Try.ntmps6
    go_wp2_with fail
    go_at_call 8
    refine (small_calls _).mono ?_
    rintro e w1 ⟨rfl, hb1⟩
    obtain ⟨F, hO1⟩ : ∃ F, Owned w0 w1 F := ⟨[], hb0.under hb1⟩
    go_wp2_with fail
    go_at_call 9
    refine (ar_new 100 hO1).mono ?_
    rintro e w2 ⟨g, r, rfl, hr, hO2⟩
    go_wp2_with fail
    go_ret
    exact ⟨rfl, hO2.below⟩
def SetsRel (w0 : World) (F : Own) (g i : Nat) (w : World) : Prop := ∃ r, Arena g 100 (nodes i) [] r ∧ Owned w0 w (r ++ F)
def SetRel (w0 : World) (F : Own) (g n : Nat) (id : Int) (p : Int × Int) (w : World) : Prop := ∃ r, Arena g 100 (setTo n id p) [] r ∧ Owned w0 w (r ++ F)
theorem ar_setTo {g n : Nat} {id k v : Int} {w0 w : World} {F r : Own} (hr : Arena g 100 (nodes n) [] r) (h : Owned w0 w (r ++ F)) :
    Calls Try.prog 15 #[.pointer (some ⟨g, 0, none⟩), .int .i64 id, .agg #[.int .i64 k, .int .i64 v]] w
      fun e w' => ∃ E : Int, e = .returned (.int .i64 E) ∧ (E == 0) = (decide (1 ≤ id) && decide (id ≤ n)) ∧ SetRel w0 F g n id (k, v) w' := by
  by_cases hid : 1 ≤ id ∧ id ≤ n
  · have hl := look_nodes (n := n) (j := id.toNat) (by omega) (by omega)
    rw [show ((id.toNat : Nat) : Int) = id by omega] at hl
    refine (ar_set k v hl hr h).mono ?_
    rintro e w' ⟨r2, rfl, hr2, hO2⟩
    refine ⟨0, rfl, by rw [decide_eq_true hid.1, decide_eq_true hid.2]; rfl, r2, ?_, hO2⟩
    unfold setTo
    rw [if_pos hid]
    exact hr2
  · refine (ar_set_none k v (look_nodes_none (n := n) (by omega)) hr h).mono ?_
    rintro e w' ⟨r2, rfl, hr2, hO2⟩
    refine ⟨3, rfl, ?_, r2, ?_, hO2⟩
    · by_cases h1 : 1 ≤ id
      · rw [decide_eq_true h1, decide_eq_false (show ¬ id ≤ n from fun h2 => hid ⟨h1, h2⟩)]; rfl
      · rw [decide_eq_false h1]; rfl
    · unfold setTo
      rw [if_neg hid]
      exact hr2
set_option maxHeartbeats 1600000 in
set_option maxRecDepth 100000 in
theorem sets_walk (n : Nat) (id k v : Int) (w0 : World) (h1 : n ≤ 50) : Calls Try.prog 6 #[.int .i64 n, .int .i64 id, .agg #[.int .i64 k, .int .i64 v]] w0 fun e w' => e = .returned (.bool true) ∧ Below w0.heap.size w0 w' := by
  have hm : mostOf 100 = 100 := rfl
  have hb0 := (Owned.nil w0).alloc (.cells #[.int .i64 k, .int .i64 v] 30)
  go_enter Try.func6, Try.ntmps6
  go_wp2_with fail
  go_at_call 8
  refine (small_calls _).mono ?_
  rintro e w1 ⟨rfl, hb1⟩
  obtain ⟨F, hO1, hF⟩ : ∃ F, Owned w0 w1 F ∧ ∀ w (r : Own), Owned w0 w (r ++ F) → w.cell? ⟨w0.heap.size, 0, none⟩ = some (.int .i64 k) ∧ w.cell? ⟨w0.heap.size, 1, none⟩ = some (.int .i64 v) :=
    ⟨_, hb0.under hb1, fun w r h => ⟨(Owned.cell (Owned.drop_ h) 0).trans rfl, (Owned.cell (Owned.drop_ h) 1).trans rfl⟩⟩
  have HF := Lib.hid hF
  clear hF hb0
  go_wp2_with fail
  go_at_call 9
  refine (ar_new 100 hO1).mono ?_
  rintro e w2 ⟨g, r, rfl, hr, hO2⟩
  rw [hm] at hr
  go_wp2_with fail
  go_loopw [9] (fun x wr => ∃ i : Nat, i ≤ n ∧ x = .int .i64 i ∧ Hid (SetsRel w0 F g i wr)) (fun x _ => n - (intOf x).toNat)
  case atStart => exact ⟨0, Nat.zero_le _, rfl, r, hr, hO2⟩
  case round =>
    obtain ⟨i, hi, rfl, hrel⟩ := hrel
    obtain ⟨r1, hr1, hO3⟩ := hrel.out
    clear hrel hr hO2
    by_cases hlt : i < n
    · go_wp2_with fail
      go_at_call 10
      refine (ar_put_new i 7 hr1 (by rw [nodes_len]; omega) (by rw [nodes_len]; omega) hO3).mono ?_
      rintro e w3 ⟨r2, rfl, hr2, hO4⟩
      go_wp2_with fail
      go_roundw
      case rel => exact ⟨i + 1, by omega, by go_num, r2, by rw [nodes_succ]; exact hr2, hO4⟩
      case measure => simp [intOf]; omega
    · obtain rfl : n = i := by omega
      obtain ⟨cb0, cb1⟩ := HF.out _ _ hO3
      go_wp2_with fail
      go_at_call 15
      refine (ar_setTo (id := id) (k := k) (v := v) hr1 hO3).mono ?_
      rintro e w3 ⟨E, rfl, hE, r2, hr2, hO4⟩
      clear hr1 hO3 cb0 cb1
      go_wp2_with fail
      all_goals
        go_loopw [11] (fun x wr => ∃ j : Nat, 1 ≤ j ∧ j ≤ n + 1 ∧ x = .int .i64 j ∧ Hid (SetRel w0 F g n id (k, v) wr)) (fun x _ => n + 1 - (intOf x).toNat)
        case atStart => exact ⟨1, by omega, by omega, rfl, r2, hr2, hO4⟩
        case round =>
          obtain ⟨j, hj1, hj2, rfl, hrel⟩ := hrel
          clear hr2 hO4 hE
          obtain ⟨r2, hr2, hO4⟩ := hrel.out
          by_cases hlt2 : j ≤ n
          · have hl := look_setTo (id := id) (p := (k, v)) hj1 hlt2
            by_cases hid : (j : Int) = id
            · rw [if_pos hid] at hl
              have hid' : ((j : Int) == id) = true := by rw [hid]; simp
              clear hid
              go_wp2_with fail
              go_at_call 12
              refine (ar_get hl hr2 hO4).mono ?_
              rintro e w5 ⟨rfl, hO5⟩
              obtain ⟨cb0, cb1⟩ := HF.out _ _ hO5
              have hlt0 := World.block_lt_of_cell? _ _ cb0
              go_wp2_with fail
              exact ⟨⟨j + 1, by omega, by omega, by go_num, r2, hr2, (hO5.alloc_ _).alloc_ _⟩, by simp [intOf]; omega⟩
            · rw [if_neg hid] at hl
              have hid' : ((j : Int) == id) = false := by simp [hid]
              clear hid
              go_wp2_with fail
              go_at_call 12
              refine (ar_get hl hr2 hO4).mono ?_
              rintro e w5 ⟨rfl, hO5⟩
              have hj3 : (j : Int) - 1 = ((j - 1 : Nat) : Int) := by omega
              go_wp2_with fail
              exact ⟨⟨j + 1, by omega, by omega, by go_num, r2, hr2, (hO5.alloc_ _).alloc_ _⟩, by simp [intOf]; omega⟩
          · have e2 : (setTo n id (k, v)).length - ([] : List Nat).length = n := by rw [setTo_len]; rfl
            go_wp2_with fail
            go_at_call 13
            refine (ar_len hr2 hO4).mono ?_
            rintro e w5 ⟨rfl, rfl⟩
            rw [e2]
            go_wp2_with fail
            go_ret
            exact ⟨rfl, hO4.below⟩
end Go.Proofs.Ytepjebmiegkpnaa
