/- The document's deque: New, Push, Unlink, Move, Reweigh. -/
import Derived.Test.YtlnokijfmkldkaaRefDq3
import Derived.Test.YtlnokijfmkldkaaRegionPop
import Derived.Test.YtlnokijfmkldkaaSepStep
namespace Go.Proofs.Ytlnokijfmkldkaa
open Go.RowKit Go.Sep DqPure
set_option linter.unusedSimpArgs false
theorem info_item : (Try.prog.info? 68).map (fun i => (i.zero, i.size, i.bytes)) = some (some (.agg #[.int .i64 0, .int .i64 0]), 2, 16) := by kernel_rfl
theorem info_items : (Try.prog.info? 66).map (fun i => (i.zero, i.size, i.bytes)) = some (some (.slice none 0 0), 1, 24) := by kernel_rfl
section
variable {g m : Nat} {st : Sts} {r F : Own} {w0 w : World}
def RnAt (w0 : World) (F : Own) (g k : Nat) (w : World) : Prop := ∃ v q, Row 66 1 v k (List.replicate k (.slice none 0 0)) q ∧ Owned w0 w ((g, .cells #[v] 65 (0, 0)) :: (q ++ F))
theorem flatO_nil : ∀ m, flatO (fun _ => []) m = []
  | 0 => rfl
  | m + 1 => by rw [flatO, flatO_nil m]; rfl
theorem replicate_map (m : Nat) (v : Value) : List.replicate m v = (List.range m).map (fun _ => v) := by
  apply List.ext_getElem <;> simp
def RdMade (w0 : World) (F : Own) (n : Nat) (e : Ending) (w' : World) : Prop := ∃ g r, e = .returned (.pointer (some ⟨g, 0, none⟩)) ∧ RdAt g n (fun _ => []) r ∧ Owned w0 w' (r ++ F)
set_option maxHeartbeats 1600000 in
theorem rd_new (x : Int) (h : Owned w0 w F) : Calls Try.prog 20 #[.int .i64 x] w (RdMade w0 F (rowsN x)) := by
  obtain ⟨n, hn⟩ : ∃ n, rowsN x = n := ⟨_, rfl⟩
  have hx : ∀ k : Nat, k < n ↔ ((k : Int) < x ∧ k < 16) := fun k => by
    rw [← hn]
    unfold rowsN
    omega
  have hn16 : n ≤ 16 := by rw [← hn]; unfold rowsN; omega
  rw [hn]
  have HX := Lib.hid hx
  clear hx hn
  have HO := Lib.hid (show RnAt w0 F w.heap.size 0 (w.alloc (.cells #[.slice none 0 0] 65)) from ⟨_, [], Row.nil _ _, h.alloc _⟩)
  obtain ⟨g, hg⟩ : ∃ g, w.heap.size = g := ⟨_, rfl⟩
  rw [hg] at HO
  clear h
  go_enter Try.func20, Try.ntmps20
  go_wp2_with fail
  clear hg
  go_loopw [4] (fun x4 wr => ∃ k : Nat, k ≤ n ∧ x4 = .int .i64 (k : Int) ∧ Hid (RnAt w0 F g k wr)) (fun x4 _ => n - (intOf x4).toNat)
  case atStart => exact ⟨0, Nat.zero_le _, rfl, HO⟩
  case round =>
    clear HO
    obtain ⟨k, hk, rfl, hrel⟩ := hrel
    obtain ⟨v, q, hrow, hO⟩ := hrel.out
    clear hrel
    by_cases hlt : k < n
    · obtain ⟨h1, h2⟩ := (HX.out k).1 hlt
      have d1 : decide ((k : Int) < x) = true := by simpa using h1
      have d2 : decide ((k : Int) < 16) = true := by simp; omega
      have c0 : wr.cell? ⟨g, 0, none⟩ = some v := (Owned.cell hO 0).trans rfl
      have hO1 := Owned.comm (a := [(g, Obj.cells #[v] 65 (0, 0))]) hO
      have hm1 : k + 1 ≤ maxLen := by unfold maxLen; omega
      have hm2 : (k + 1) * 24 ≤ 140737488355328 := by omega
      clear h1 HX
      go_wp2_with (at_builtin; refine append_one rfl (.tmp 20) (.tmp 21) 63 rfl 66 (.slice none 0 0) 24 Try.underlying63 info_items rfl _ k _ q _ _ rfl hrow hO1 rfl rfl hm1 hm2 ?_)
      intro v2 q2 w5 hrow2 hO5
      have hO6 := Owned.comm (b := [(g, Obj.cells #[v] 65 (0, 0))]) hO5
      have c5 : w5.cell? ⟨g, 0, none⟩ = some v := (Owned.cell hO6 0).trans rfl
      have f5 : w5.frozen? ⟨g, 0, none⟩ = false := Owned.frozen hO6 0
      obtain ⟨A2, c2, rfl⟩ := hrow2.slice
      have HN := Lib.hid (show RnAt w0 F g (k + 1) (w5.setCell ⟨g, 0, none⟩ (.slice A2 (k + 1) c2)) from ⟨_, q2, by rw [List.replicate_succ']; exact hrow2, Owned.set hO6 0 _⟩)
      clear hrow hrow2 hO hO1 hO5 hO6 c0
      go_wp2_with fail
      go_roundw
      case rel => exact ⟨k + 1, by omega, by go_num, HN⟩
      case measure => simp [intOf]; omega
    · obtain rfl : k = n := by omega
      have h1 : ¬ ((k : Int) < x ∧ k < 16) := fun hh => hlt ((HX.out k).2 hh)
      have HF := Lib.hid (And.intro hrow hO)
      clear hrow hO HX hlt
      by_cases h2 : (k : Int) < x
      · have d1 : decide ((k : Int) < x) = true := by simpa using h2
        have d2 : decide ((k : Int) < 16) = false := by simp; omega
        go_wp2_with fail
        go_ret
        exact ⟨g, RdB g v q (fun _ => []) k, rfl, ⟨v, q, fun _ => .slice none 0 0, fun _ => [], rfl, by rw [← replicate_map]; exact HF.out.1, fun i _ => Row.nil _ _⟩, by rw [rd_app, flatO_nil]; exact HF.out.2⟩
      · have d1 : decide ((k : Int) < x) = false := by simpa using h2
        go_wp2_with fail
        go_ret
        exact ⟨g, RdB g v q (fun _ => []) k, rfl, ⟨v, q, fun _ => .slice none 0 0, fun _ => [], rfl, by rw [← replicate_map]; exact HF.out.1, fun i _ => Row.nil _ _⟩, by rw [rd_app, flatO_nil]; exact HF.out.2⟩
theorem cell_two_new (w : World) (x y : Value) (t : TypeId) : ∀ j u, [x, y][j]? = some u → (w.alloc (.cells #[x, y] t)).cell? ((⟨w.heap.size, 0, none⟩ : Addr).add j) = some u := by
  intro j u hj
  have hb : (w.alloc (.cells #[x, y] t)).heap[w.heap.size]? = some (.cells #[x, y] t (0, 0)) := heap_alloc_new w _
  have hc : ∀ i, (w.alloc (.cells #[x, y] t)).cell? ⟨w.heap.size, i, none⟩ = #[x, y][i]? := fun i => by
    unfold World.cell?
    rw [hb]
    rfl
  have e : (⟨w.heap.size, 0, none⟩ : Addr).add j = ⟨w.heap.size, j, none⟩ := by
    unfold Addr.add
    rw [Nat.zero_add]
    split
    · next h => rw [h]
    · rfl
  rw [e, hc j]
  simpa using hj
/-- what stands in one row, apart from the rest -/
theorem rd_focus {v : Value} {q : Own} {os : Nat → Own} {k : Nat} (hk : k < m) (h : Owned w0 w (RdB g v q os m ++ F)) : Owned w0 w (os k ++ RdRest g v q os m k F) := h.perm (rd_out_perm _ _ _ _ _ _ _ hk)
/-- the row's slot is written, its items being known -/
theorem rd_write {v : Value} {q : Own} {vs : Nat → Value} {os : Nat → Own} {k b : Nat} {c : Nat} {l : List (Int × Int)} {u : Value} {o : Own} (hI : RdIn v q vs os m st) (hk : k < m) (hv : v = .slice (some ⟨b, 0, none⟩) m c)
    (hrow : Row 68 2 u l.length (itemsV l) o) (h : Owned w0 w (o ++ RdRest g v q os m k F)) :
    w.cell? ⟨b, k, none⟩ = some (vs k) ∧ w.frozen? ⟨b, k, none⟩ = false ∧ ∃ r', RdAt g m (updS st k l) r' ∧ Owned w0 (w.setCell ⟨b, k, none⟩ u) (r' ++ F) := by
  have h1 : Owned w0 w (RdB g v q (updS os k o) m ++ F) := h.perm (rd_in_perm _ _ _ _ _ _ _ _ hk)
  have h2 := rd_q h1
  obtain ⟨hl, hc⟩ := hI.row
  rcases hc with ⟨hv2, h0, -⟩ | ⟨b2, cap, cur, hv2, rfl, e1, e2, e3, e4⟩
  · omega
  · rw [hv] at hv2
    injection hv2 with f1 f2 f3
    injection f1 with f1
    injection f1 with f1 f4
    subst f1
    have h3 : Owned w0 w ((b, .cells cur 66 (0, 0)) :: ([(g, .cells #[v] 65 (0, 0))] ++ (flatO (updS os k o) m ++ F))) := h2
    have hcur : cur[k]? = some (vs k) := by
      have h5 : cur[k]? = (cur.toList.take (m * 1))[k]? := by rw [List.getElem?_take, if_pos (by omega)]; simp
      rw [h5, e4]
      simp [hk]
    refine ⟨(Owned.cell h3 k).trans hcur, Owned.frozen h3 k, RdB g v [(b, .cells (cur.setIfInBounds k u) 66 (0, 0))] (updS os k o) m, ?_, ?_⟩
    · refine ⟨v, _, updS vs k u, updS os k o, rfl, ⟨by simp, .inr ⟨b, cap, _, hv.trans (by rw [f3]), rfl, e1, e2, by simpa using e3, ?_⟩⟩, fun i hi => ?_⟩
      · rw [Array.toList_setIfInBounds, List.take_set, e4]
        apply List.ext_getElem?
        intro j
        rw [List.getElem?_set]
        by_cases hj : k = j
        · subst hj
          simp [hk, updS_same]
        · rw [if_neg hj]
          by_cases hjm : j < m
          · simp [hjm, updS_ne vs u (Ne.symm hj)]
          · simp [hjm]
      · by_cases hj : i = k
        · subst hj
          rw [updS_same, updS_same, updS_same]
          exact hrow
        · rw [updS_ne _ _ hj, updS_ne _ _ hj, updS_ne _ _ hj]
          exact hI.rows i hi
    · have h4 := h3.set k u
      rw [rd_app]
      exact Owned.comm (a := [(b, Obj.cells (cur.setIfInBounds k u) 66 (0, 0))]) h4
set_option maxHeartbeats 3200000 in
set_option maxRecDepth 100000 in
theorem rd_push_new {k : Nat} {id x : Int} (h : RdAt g m st r) (hm : m ≤ 16) (hlen : ∀ i, i < m → (st i).length ≤ 1000000) (hk : k < m) (hi : 1 ≤ id ∧ id ≤ 65536) (hx : Fine x) (ha : Absent m st id) (hO : Owned w0 w (r ++ F)) :
    Calls Try.prog 21 #[.pointer (some ⟨g, 0, none⟩), .int .i64 (k : Int), .int .i64 id, .int .i64 x] w fun e w' => e = .returned (.int .i64 0) ∧ ∃ r', RdAt g m (updS st k (st k ++ [(id, x)])) r' ∧ Owned w0 w' (r' ++ F) := by
  have CR := rd_row_calls (k : Int) h hO
  rw [decide_eq_true (show Good m (k : Int) from ⟨by omega, by omega⟩)] at CR
  have CF := rd_fine (w := w) x
  rw [decide_eq_true hx] at CF
  have CN := rd_find id h hm hlen hO
  obtain ⟨v, q, vs, os, rfl, hI⟩ := h
  obtain ⟨A, c, hv, hc, hrows⟩ := rd_reads (w0 := w0) (g := g) hI
  obtain ⟨b, rfl, hr⟩ := hrows (by omega)
  obtain ⟨Ak, ck, hvk, h1, -⟩ := hr k hk
  have hl1 := hlen k hk
  obtain ⟨n, hn⟩ : ∃ n, (st k).length = n := ⟨_, rfl⟩
  have hrow := hI.rows k hk
  rw [hvk] at hrow
  rw [hn] at h1 hl1 hrow
  have d1 : decide (id < 1) = false := by simp; omega
  have d2 : decide (65536 < id) = false := by simp; omega
  have hm1 : n + 1 ≤ maxLen := by unfold maxLen; omega
  have hm2 : (n + 1) * 16 ≤ 140737488355328 := by omega
  have hOd := hO.drew
  have t0 := hc _ _ hOd
  have t1 := h1 _ _ hOd
  have HH := Lib.hid (And.intro hI (And.intro hv (And.intro hvk hn)))
  have HO := Lib.hid (rd_focus (k := k) hk hOd)
  have HC := Lib.hid hc
  have H1 := Lib.hid h1
  clear hI hc hrows hr h1 hvk hlen hO hOd hx hi hn hv
  go_enter Try.func21, Try.ntmps21
  go_wp2_with fail
  go_at_call 33
  refine (CR).mono ?_
  rintro e w2 ⟨rfl, rfl⟩
  go_wp2_with fail
  go_at_call 34
  refine (CF).mono ?_
  rintro e w2 ⟨rfl, rfl⟩
  go_wp2_with fail
  go_at_call 35
  refine (CN).mono ?_
  rintro e w2 ⟨a1, b1, rfl, hF, rfl⟩
  rcases of_find hF with ⟨-, rfl, rfl, -⟩ | ⟨i, j, -, -, h2, h3, h4⟩
  · clear hF CR CF CN
    go_wp2_with fail
    refine wp_region_pop (S := fun w' => w'.cell? ⟨g, 0, none⟩ = some (.slice (some ⟨b, 0, none⟩) m c) ∧ w'.cell? ⟨b, k, none⟩ = some (.slice Ak n ck)) 18 _ rfl (by kernel_rfl) (by kernel_rfl) ⟨t0, t1⟩ (fun hHeld => ?_)
    simp only [List.take_succ_cons, List.take_zero]
    refine wpAnyH_take (i := 0) (oi := _) (v := ?_) (by simp only [List.getElem?_toArray, List.getElem?_cons_succ, List.getElem?_cons_zero]; exact rfl) (by kernel_rfl) (by kernel_rfl) (by kernel_rfl) (by intro _ _ _ h; exact h) (Or.inl ⟨by rfl, ?_⟩) (by assumption) ?_
    rotate_left
    · intro w hSw; (try dsimp only at hSw); go_simp; (try with_reducible rfl)
    try simp only [Act.put, List.setIfInBounds_toArray, List.set_cons_zero, List.set_cons_succ]
    refine wpAnyH_take (i := 1) (oi := _) (v := ?_) (by simp only [List.getElem?_toArray, List.getElem?_cons_succ, List.getElem?_cons_zero]; exact rfl) (by kernel_rfl) (by kernel_rfl) (by kernel_rfl) (by intro _ _ _ h; exact h) (Or.inl ⟨by rfl, ?_⟩) (by assumption) ?_
    rotate_left
    · intro w hSw; (try dsimp only at hSw); go_simp; (try with_reducible rfl)
    try simp only [Act.put, List.setIfInBounds_toArray, List.set_cons_zero, List.set_cons_succ]
    refine wpAnyH_take (i := 2) (oi := _) (v := ?_) (by simp only [List.getElem?_toArray, List.getElem?_cons_succ, List.getElem?_cons_zero]; exact rfl) (by kernel_rfl) (by kernel_rfl) (by kernel_rfl) (by intro _ _ _ h; exact h) (Or.inl ⟨by rfl, ?_⟩) (by assumption) ?_
    rotate_left
    · intro w hSw; (try dsimp only at hSw); go_simp; (try with_reducible rfl)
    try simp only [Act.put, List.setIfInBounds_toArray, List.set_cons_zero, List.set_cons_succ]
    refine wpAnyH_take (i := 3) (oi := _) (v := ?_) (by simp only [List.getElem?_toArray, List.getElem?_cons_succ, List.getElem?_cons_zero]; exact rfl) (by kernel_rfl) (by kernel_rfl) (by kernel_rfl) (by intro _ _ _ h; exact h) (Or.inl ⟨by rfl, ?_⟩) (by assumption) ?_
    rotate_left
    · intro w hSw; (try dsimp only at hSw); go_simp; (try with_reducible rfl)
    try simp only [Act.put, List.setIfInBounds_toArray, List.set_cons_zero, List.set_cons_succ]
    refine wpAnyH_take (i := 4) (oi := _) (v := ?_) (by simp only [List.getElem?_toArray, List.getElem?_cons_succ, List.getElem?_cons_zero]; exact rfl) (by kernel_rfl) (by kernel_rfl) (by kernel_rfl) (by intro _ _ _ h; exact h) (Or.inl ⟨by rfl, ?_⟩) (by assumption) ?_
    rotate_left
    · intro w hSw; (try dsimp only at hSw); go_simp; (try with_reducible rfl)
    try simp only [Act.put, List.setIfInBounds_toArray, List.set_cons_zero, List.set_cons_succ]
    refine wpAnyH_take (i := 5) (oi := _) (v := ?_) (by simp only [List.getElem?_toArray, List.getElem?_cons_succ, List.getElem?_cons_zero]; exact rfl) (by kernel_rfl) (by kernel_rfl) (by kernel_rfl) (by intro _ _ _ h; exact h) (Or.inl ⟨by rfl, ?_⟩) (by assumption) ?_
    rotate_left
    · intro w hSw; (try dsimp only at hSw); go_simp; (try with_reducible rfl)
    try simp only [Act.put, List.setIfInBounds_toArray, List.set_cons_zero, List.set_cons_succ]
    refine wpAnyH_take (i := 6) (oi := _) (v := ?_) (by simp only [List.getElem?_toArray, List.getElem?_cons_succ, List.getElem?_cons_zero]; exact rfl) (by kernel_rfl) (by kernel_rfl) (by kernel_rfl) (by intro _ _ _ h; exact h) (Or.inl ⟨by rfl, ?_⟩) (by assumption) ?_
    rotate_left
    · intro w hSw; (try dsimp only at hSw); go_simp; (try with_reducible rfl)
    try simp only [Act.put, List.setIfInBounds_toArray, List.set_cons_zero, List.set_cons_succ]
    refine wpAnyH_take (i := 7) (oi := _) (v := ?_) (by simp only [List.getElem?_toArray, List.getElem?_cons_succ, List.getElem?_cons_zero]; exact rfl) (by kernel_rfl) (by kernel_rfl) (by kernel_rfl) (by intro _ _ _ h; exact h) (Or.inl ⟨by rfl, ?_⟩) (by assumption) ?_
    rotate_left
    · intro w hSw; (try dsimp only at hSw); go_simp; (try with_reducible rfl)
    try simp only [Act.put, List.setIfInBounds_toArray, List.set_cons_zero, List.set_cons_succ]
    refine wpAnyH_take (i := 8) (oi := _) (v := ?_) (by simp only [List.getElem?_toArray, List.getElem?_cons_succ, List.getElem?_cons_zero]; exact rfl) (by kernel_rfl) (by kernel_rfl) (by kernel_rfl) (by intro _ _ _ h; exact h) (Or.inl ⟨by rfl, ?_⟩) (by assumption) ?_
    rotate_left
    · intro w hSw; (try dsimp only at hSw); go_simp; (try with_reducible rfl)
    try simp only [Act.put, List.setIfInBounds_toArray, List.set_cons_zero, List.set_cons_succ]
    refine wpAnyH_take (i := 9) (oi := _) (v := ?_) (by simp only [List.getElem?_toArray, List.getElem?_cons_succ, List.getElem?_cons_zero]; exact rfl) (by kernel_rfl) (by kernel_rfl) (by kernel_rfl) (by intro _ _ _ h; exact h) (Or.inl ⟨by rfl, ?_⟩) (by assumption) ?_
    rotate_left
    · intro w hSw; (try dsimp only at hSw); go_simp; (try with_reducible rfl)
    try simp only [Act.put, List.setIfInBounds_toArray, List.set_cons_zero, List.set_cons_succ]
    refine wpAnyH_take (i := 10) (oi := _) (v := ?_) (by simp only [List.getElem?_toArray, List.getElem?_cons_succ, List.getElem?_cons_zero]; exact rfl) (by kernel_rfl) (by kernel_rfl) (by kernel_rfl) (by intro _ _ _ h; exact h) (Or.inl ⟨by rfl, ?_⟩) (by assumption) ?_
    rotate_left
    · intro w hSw; (try dsimp only at hSw); go_simp; (try with_reducible rfl)
    try simp only [Act.put, List.setIfInBounds_toArray, List.set_cons_zero, List.set_cons_succ]
    refine wpAnyH_take (i := 11) (oi := _) (v := ?_) (by simp only [List.getElem?_toArray, List.getElem?_cons_succ, List.getElem?_cons_zero]; exact rfl) (by kernel_rfl) (by kernel_rfl) (by kernel_rfl) (by intro _ _ _ h; exact h) (Or.inl ⟨by rfl, ?_⟩) (by assumption) ?_
    rotate_left
    · intro w hSw; (try dsimp only at hSw); go_simp; (try with_reducible rfl)
    try simp only [Act.put, List.setIfInBounds_toArray, List.set_cons_zero, List.set_cons_succ]
    refine wpAnyH_take (i := 12) (oi := _) (v := ?_) (by simp only [List.getElem?_toArray, List.getElem?_cons_succ, List.getElem?_cons_zero]; exact rfl) (by kernel_rfl) (by kernel_rfl) (by kernel_rfl) (by intro _ _ _ h; exact h) (Or.inl ⟨by rfl, ?_⟩) (by assumption) ?_
    rotate_left
    · intro w hSw; (try dsimp only at hSw); go_simp; (try with_reducible rfl)
    try simp only [Act.put, List.setIfInBounds_toArray, List.set_cons_zero, List.set_cons_succ]
    refine wpAnyH_take (i := 13) (oi := _) (v := ?_) (by simp only [List.getElem?_toArray, List.getElem?_cons_succ, List.getElem?_cons_zero]; exact rfl) (by kernel_rfl) (by kernel_rfl) (by kernel_rfl) (by intro _ _ _ h; exact h) (Or.inl ⟨by rfl, ?_⟩) (by assumption) ?_
    rotate_left
    · intro w hSw; (try dsimp only at hSw); go_simp; (try with_reducible rfl)
    try simp only [Act.put, List.setIfInBounds_toArray, List.set_cons_zero, List.set_cons_succ]
    refine wpAnyH_take (i := 14) (oi := _) (v := ?_) (by simp only [List.getElem?_toArray, List.getElem?_cons_succ, List.getElem?_cons_zero]; exact rfl) (by kernel_rfl) (by kernel_rfl) (by kernel_rfl) (by intro _ _ _ h; exact h) (Or.inl ⟨by rfl, ?_⟩) (by assumption) ?_
    rotate_left
    · intro w hSw; (try dsimp only at hSw); go_simp; (try with_reducible rfl)
    try simp only [Act.put, List.setIfInBounds_toArray, List.set_cons_zero, List.set_cons_succ]
    refine wpAnyH_ready (rs := [15]) (by kernel_rfl) (by simp) (AllReadyH.cons (o := _) rfl (fun K hK => ?_) AllReadyH.nil)
    go_simp
    have HO1 := Lib.hid (HO.out.alloc_ (.cells #[.int .i64 id, .int .i64 x] 68))
    have t2 := HC.out _ _ (HO1.out.perm (rd_out_perm _ _ _ _ _ _ _ hk).symm)
    have t3 := H1.out _ _ (HO1.out.perm (rd_out_perm _ _ _ _ _ _ _ hk).symm)
    refine hK.out _ _ ⟨t2, t3⟩ (fun hHeld => ?_)
    clear hK K
    try simp only [Act.put, List.setIfInBounds_toArray, List.set_cons_zero, List.set_cons_succ]
    refine wpAnyH_ready (rs := [16]) (by kernel_rfl) (by simp) (AllReadyH.cons (o := _) rfl (fun K hK => ?_) AllReadyH.nil)
    refine step_append_row rfl (.tmp 47) (.tmp 51) 66 rfl 68 (.agg #[.int .i64 0, .int .i64 0]) 2 16 Try.underlying66 info_item rfl (by decide) (.slice Ak n ck) n (itemsV (st k)) (os k) _ rfl hrow HO1.out ⟨w2.drew.heap.size, 0, none⟩ 1 1 [.int .i64 id, .int .i64 x] rfl rfl (cell_two_new _ _ _ _) (by simp [Value.oneCell']) (by omega) hm1 hm2 ?_
    intro gg cap r2 w6 hrow2 hO6
    obtain ⟨hI, hv, hvk, hn⟩ := HH.out
    have hrow3 : Row 68 2 (.slice (some ⟨gg, 0, none⟩) (n + 1) cap) (st k ++ [(id, x)]).length (itemsV (st k ++ [(id, x)])) r2 := by
      rw [List.length_append, hn, itemsV_append]
      exact hrow2
    obtain ⟨c6, f6, hw⟩ := rd_write hI hk hv hrow3 hO6
    rw [hvk, hn] at c6
    have c7 : w6.cell? ⟨g, 0, none⟩ = some (.slice (some ⟨b, 0, none⟩) m c) := by rw [← hv]; exact (Owned.cell (hO6.perm List.perm_middle) 0).trans rfl
    have HW := Lib.hid hw
    refine hK.out _ _ ⟨c7, c6⟩ (fun hHeld => ?_)
    clear hK K hI hv hvk hn hrow3 hrow2 hO6 hw hrow t0 t1 t2 t3 HH
    try simp only [Act.put, List.setIfInBounds_toArray, List.set_cons_zero, List.set_cons_succ]
    refine wpAnyH_take (i := 17) (oi := _) (v := ?_) (by simp only [List.getElem?_toArray, List.getElem?_cons_succ, List.getElem?_cons_zero]; exact rfl) (by kernel_rfl) (by kernel_rfl) (by kernel_rfl) (by intro _ _ _ h; exact h) (Or.inl ⟨by rfl, ?_⟩) (by assumption) ?_
    rotate_left
    · intro w hSw; (try dsimp only at hSw); go_simp; (try with_reducible rfl)
    try simp only [Act.put, List.setIfInBounds_toArray, List.set_cons_zero, List.set_cons_succ]
    refine wpAnyH_done (by kernel_rfl) ?_ _
    unfold popQ
    go_simp
    go_wp2_with fail
    go_ret
    exact ⟨rfl, HW.out⟩
  · exfalso
    exact ha i h2 ((st i).getD j (0, 0)) (by simp [List.getD, h3]) h4
end
end Go.Proofs.Ytlnokijfmkldkaa
