/- Merged texts: Layer 7: so many empty rows. Layer 7: the statements' small case comes out right. The statements of layer 7: DequeQueue, the walk. -/
import Derived.Test.YtnhdjpeadhcajaaK23
import Derived.Carry
import Derived.Deep.DeepCutAuto
import Derived.Test.YtnhdjpeadhcajaaK24
import Derived.Test.YtnhdjpeadhcajaaK13
import Derived.Test.YtnhdjpeadhcajaaK05
import Derived.Deep.RegionHeld3
namespace Go.Proofs.Ytnhdjpeadhcajaa
open Go.RowKit Go.Sep DqPure
theorem max_if7 : ∀ x y : Int, (if x < y then y else x) = max x y := by intro x y; split <;> omega
theorem min_if7 : ∀ x y : Int, (if x < y then x else y) = min y x := by intro x y; split <;> omega
theorem info_lp : (Try.prog.info? 85).map (fun i => (i.zero, i.size, i.bytes)) = some (some (.pointer none), 1, 8) := by kernel_rfl
def rowsN (x : Int) : Nat := (min (max 0 x) 16).toNat
def lsO (L : Nat → Nat) (k : Nat) : Own := (List.range k).map (fun i => (L i, listO i 0 0 (L i) (L i)))
theorem lsO_succ (L : Nat → Nat) (k g : Nat) : lsO (updS L k g) (k + 1) = lsO L k ++ [(g, listO k 0 0 g g)] := by
  unfold lsO
  rw [List.range_succ, List.map_append, List.map_singleton, updS_same]
  congr 1
  refine List.map_congr_left (fun i hi => ?_)
  rw [updS_ne _ _ (by have := List.mem_range.1 hi; omega)]
theorem nps_succ (L : Nat → Nat) (k g : Nat) : (List.range (k + 1)).map (fun i => nptr (updS L k g i)) = (List.range k).map (fun i => nptr (L i)) ++ [nptr g] := by
  rw [List.range_succ, List.map_append, List.map_singleton, updS_same]
  congr 1
  refine List.map_congr_left (fun i hi => ?_)
  rw [updS_ne _ _ (by have := List.mem_range.1 hi; omega)]
def DNew (w0 : World) (F : Own) (bx bm k : Nat) (w : World) : Prop :=
  ∃ v q L, Row 85 1 v k ((List.range k).map (fun i => nptr (L i))) q ∧ Owned w0 w (q ++ ([(bx, LoO v bm)] ++ ([(bm, .map #[] 0)] ++ (lsO L k ++ F))))
theorem look_of_mem : ∀ {r : Own} {b : Nat} {o : Obj}, (r.map (·.1)).Nodup → (b, o) ∈ r → lookB r b = some o
  | [], _, _, _, h => by simp at h
  | p :: r, b, o, hn, h => by
    rw [List.map_cons, List.nodup_cons] at hn
    rcases List.mem_cons.1 h with rfl | h
    · exact look_cons_self _ _ _
    · rw [look_cons_ne (fun e => hn.1 (by rw [e]; exact List.mem_map.2 ⟨_, h, rfl⟩))]
      exact look_of_mem hn.2 h
section
variable {bx bm m : Nat} {F : Own} {w0 w : World}
theorem dnew_at (h : DNew w0 F bx bm m w) (hm : m ≤ 16) : ∃ r, DqAt bx m 0 (fun _ => []) r ∧ Owned w0 w (r ++ F) := by
  obtain ⟨v, q, L, hrow, hO⟩ := h
  have hO2 : Owned w0 w ((q ++ ([(bx, LoO v bm)] ++ ([(bm, .map #[] 0)] ++ lsO L m))) ++ F) := by simpa only [List.append_assoc] using hO
  refine ⟨_, ?_, hO2⟩
  have hnd : ((q ++ ([(bx, LoO v bm)] ++ ([(bm, Obj.map #[] 0)] ++ lsO L m))).map (·.1)).Nodup := (hO2.sub (List.sublist_append_left _ _)).nodup
  have hlk : ∀ k, k < m → (L k, listO k 0 0 (L k) (L k)) ∈ q ++ ([(bx, LoO v bm)] ++ ([(bm, Obj.map #[] 0)] ++ lsO L m)) := fun k hk => by
    refine List.mem_append_right _ (List.mem_append_right _ (List.mem_append_right _ ?_))
    exact List.mem_map.2 ⟨k, List.mem_range.2 hk, rfl⟩
  have hnd2 := hnd
  simp only [List.map_append, List.map_cons, List.nodup_append, List.cons_append, List.nil_append, List.nodup_cons, List.mem_cons] at hnd2
  have hlm : ∀ k, k < m → L k ∈ (lsO L m).map (·.1) := fun k hk => List.mem_map.2 ⟨_, List.mem_map.2 ⟨k, List.mem_range.2 hk, rfl⟩, rfl⟩
  obtain ⟨q1, ⟨q2, q3, q4⟩, q5⟩ := hnd2
  have hdL : ∀ j k, j < m → k < m → j ≠ k → L j ≠ L k := by
    intro j k hj hk hjk e
    have h1 : ((lsO L m).map (·.1)) = (List.range m).map L := by unfold lsO; rw [List.map_map]; rfl
    rw [h1] at q4
    have h2 := List.pairwise_iff_getElem.1 q4
    by_cases hlt : j < k
    · exact h2 j k (by simpa using hj) (by simpa using hk) hlt (by simpa using e)
    · exact h2 k j (by simpa using hk) (by simpa using hj) (by omega) (by simpa using e.symm)
  refine ⟨v, bm, q, L, fun _ => [], fun b => b, fun b => b, fun _ => 0, fun _ => 0, fun _ => 0, fun _ => 0, fun _ => 0, fun _ => 0, .map #[] 0, ⟨⟨⟨fun k hk => ?_, fun b hb => ?_, hdL, fun p hp => ?_⟩, fun k hk => ⟨rfl, rfl⟩, fun k hk => by simp, fun j k _ _ _ b hb => by simp at hb, fun k hk b hb => by simp at hb, fun k hk b hb => by simp at hb, fun k hk => rfl, fun k hk => rfl⟩, ?_, hrow, hm, mapO_empty, fun k hk b hb => by simp at hb, fun x hx => absurd rfl hx, ?_⟩, fun k hk => rfl⟩
  · exact look_of_mem hnd (hlk k hk)
  · obtain ⟨k, -, hk⟩ := hb
    simp at hk
  · have hno : p.1 ∉ (lsO L m).map (·.1) ∧ p ∈ q ++ ([(bx, LoO v bm)] ++ ([(bm, Obj.map #[] 0)] ++ lsO L m)) := by
      rcases List.mem_cons.1 hp with rfl | hp
      · exact ⟨q3, by simp⟩
      · rcases List.mem_cons.1 hp with rfl | hp
        · exact ⟨fun h => q2 (Or.inr h), by simp⟩
        · exact ⟨fun h => q5 p.1 (List.mem_map.2 ⟨p, hp, rfl⟩) p.1 (Or.inr (Or.inr h)) rfl, List.mem_append_left _ hp⟩
    refine ⟨look_of_mem hnd hno.2, ?_⟩
    rintro (⟨k, -, hk⟩ | ⟨k, hk, e⟩)
    · simp at hk
    · exact hno.1 (by rw [e]; exact hlm k hk)
  · refine List.nodup_cons.2 ⟨fun h => ?_, List.nodup_cons.2 ⟨fun h => ?_, q1⟩⟩
    · rcases List.mem_cons.1 h with e | h
      · exact q2 (Or.inl e.symm)
      · exact q5 bm h bm (Or.inr (Or.inl rfl)) rfl
    · exact q5 bx h bx (Or.inl rfl) rfl
  · have : ∀ k, totl (fun _ => ([] : List Nat)) k = 0 := by
      intro k
      induction k with
      | zero => rfl
      | succ k ih => rw [totl, ih]; rfl
    rw [this]
    exact Nat.le_refl _
set_option maxHeartbeats 1600000 in
theorem dq_new (x : Int) (h : Owned w0 w F) : Calls Try.prog 22 #[.int .i64 x] w fun e w' => ∃ bx r, e = .returned (.pointer (some ⟨bx, 0, none⟩)) ∧ DqAt bx (rowsN x) 0 (fun _ => []) r ∧ Owned w0 w' (r ++ F) := by
  have hmax := max_if7
  have hmin := min_if7
  obtain ⟨m, hm, hmx⟩ : ∃ m : Nat, m ≤ 16 ∧ min (max 0 x) 16 = (m : Int) := ⟨(min (max 0 x) 16).toNat, by omega, by omega⟩
  have hmr : rowsN x = m := by unfold rowsN; omega
  rw [hmr]
  have hO := h.alloc2 (.map #[] 0) (LoO (.slice none 0 0) w.heap.size)
  have HO := Lib.hid (show DNew w0 F (w.heap.size + 1) w.heap.size 0 ((w.alloc (.map #[] 0)).alloc (.cells #[.slice none 0 0, .map (some w.heap.size)] 84)) from
    ⟨_, [], fun _ => 0, Row.nil _ _, hO.swap⟩)
  have hmk := run_makeMap (P := Try.prog) 81 w
  clear h hO hmr
  go_enter Try.func22, Try.ntmps22
  generalize hg : w.heap.size = bm at *
  go_wp2_with fail
  go_loopw [12] (fun x12 wr => ∃ k : Nat, k ≤ m ∧ x12 = .int .i64 k ∧ Hid (DNew w0 F (bm + 1) bm k wr)) (fun x12 _ => m - (intOf x12).toNat)
  case atStart => exact ⟨0, by omega, rfl, by simpa using HO⟩
  case round =>
    clear HO hg hmk
    obtain ⟨k, hk, rfl, hrel⟩ := hrel
    by_cases hlt : k < m
    · obtain ⟨v, q, L, hrow, hO⟩ := hrel.out
      clear hrel
      have hd : decide ((k : Int) < (m : Int)) = true := by simp; omega
      have HO := Lib.hid hO
      clear hO
      go_wp2_with fail
      go_cut [] (fun wc => Hid (Owned w0 wc ([(wr.heap.size, listO k 0 0 wr.heap.size wr.heap.size)] ++ (q ++ ([(bm + 1, LoO v bm)] ++ ([(bm, .map #[] 0)] ++ (lsO L k ++ F)))))))
      case first =>
        go_region_with (fail)
        all_goals go_wp2_with fail
        all_goals go_meet
        case rel => exact (HO.out.alloc (listO k 0 0 wr.heap.size wr.heap.size)).drew
      case rest =>
        clear HO
        generalize wr.heap.size = g at *
        obtain ⟨A, c, rfl⟩ := hrow.slice
        have hC := hcut.out
        clear hcut
        have c0 : wc.cell? ⟨bm + 1, 0, none⟩ = some (.slice A k c) := (Owned.cell (Owned.third (a := [_]) (b := q) (c := [_]) hC) 0).trans rfl
        have HC := Lib.hid (Owned.comm (a := [_]) (b := q) hC)
        have hm1 : k + 1 ≤ maxLen := by unfold maxLen; omega
        have hm2 : (k + 1) * 8 ≤ 140737488355328 := by omega
        have HROW := Lib.hid hrow
        clear hC hrow
        go_wp2_with (at_builtin; refine Sep.append_one rfl (.tmp 36) (.tmp 38) 82 rfl 85 (.pointer none) 8 Try.underlying82 info_lp rfl _ k _ q _ (nptr g) rfl HROW.out HC.out rfl rfl hm1 hm2 ?_; intro v2 r2 w6 hrow2 hO6; obtain ⟨A2, c2, rfl⟩ := hrow2.slice; have HROW2 := Lib.hid hrow2; have hO7 := Owned.third (a := r2) (b := [_]) (c := [_]) hO6; have HO7 := Lib.hid hO7; have c6 : w6.cell? ⟨bm + 1, 0, none⟩ = some (.slice A k c) := (Owned.cell hO7 0).trans rfl; have f6 : w6.frozen? ⟨bm + 1, 0, none⟩ = false := Owned.frozen hO7 0; clear hrow2 hO6 hO7 c0)
        have HN := Lib.hid (show DNew w0 F (bm + 1) bm (k + 1) (w6.setCell ⟨bm + 1, 0, none⟩ (.slice A2 (k + 1) c2)) from by
          refine ⟨_, r2, updS L k g, by rw [nps_succ]; exact HROW2.out, ?_⟩
          have h1 := Owned.comm (a := [_]) (b := r2) (Owned.set HO7.out 0 (.slice A2 (k + 1) c2))
          rw [lsO_succ, List.append_assoc]
          exact h1.perm (List.Perm.append_left _ (List.Perm.append_left _ (perm3 _ _ _ _).symm)))
        clear HC HROW2 HO7 HROW c6 f6
        go_wp2_with fail
        go_roundw
        case rel => exact ⟨k + 1, by omega, by go_num, HN⟩
        case measure => simp [intOf]; omega
    · obtain rfl : k = m := by omega
      have hd : decide ((k : Int) < (k : Int)) = false := by simp
      obtain ⟨r, hr, hO⟩ := dnew_at hrel.out hm
      have HR := Lib.hid (And.intro hr hO)
      clear hrel hr hO
      go_wp2_with fail
      go_ret
      exact ⟨_, r, rfl, HR.out.1, HR.out.2⟩
end
end Go.Proofs.Ytnhdjpeadhcajaa
namespace Go.Proofs.Ytnhdjpeadhcajaa
open Go.RowKit Go.Sep DqPure
section
variable {F : Own} {w0 w : World}
def dsm0 : Nat → List (Int × Int) := fun _ => []
def dsm1 : Nat → List (Int × Int) := updS dsm0 0 (dsm0 0 ++ [(5, 3)])
def dsm2 : Nat → List (Int × Int) := updS dsm1 0 (dsm1 0 ++ [(6, 4)])
def dsm3 : Nat → List (Int × Int) := updS (updS dsm2 0 ([] ++ [(6, 4)])) 0 (updS dsm2 0 ([] ++ [(6, 4)]) 0 ++ [(5, 3)])
theorem absent2 {st : Nat → List (Int × Int)} {x : Int} (h0 : ∀ p ∈ st 0, p.1 ≠ x) (h1 : ∀ p ∈ st 1, p.1 ≠ x) : Absent 2 st x := by
  intro k hk
  rcases (by omega : k = 0 ∨ k = 1) with rfl | rfl
  · exact h0
  · exact h1
end
end Go.Proofs.Ytnhdjpeadhcajaa
namespace Go.Proofs.Ytnhdjpeadhcajaa
open Go.RowKit Go.Sep DqPure
section
variable {F : Own} {w0 w : World}
theorem DqAt.congr {bx m n : Nat} {st st' : Nat → List (Int × Int)} {r : Own} (h : DqAt bx m n st r) (e : ∀ k, k < m → st' k = st k) : DqAt bx m n st' r := by
  obtain ⟨v, bm, q, L, S, nx, pv, li, id, wt, LW, LN, f, o, hI, hst⟩ := h
  exact ⟨v, bm, q, L, S, nx, pv, li, id, wt, LW, LN, f, o, hI, fun k hk => (e k hk).trans (hst k hk)⟩
theorem info_i7 : (Try.prog.info? 3).map (fun i => (i.zero, i.size, i.bytes)) = some (some (.int .i64 0), 1, 8) := by kernel_rfl
theorem ints_snoc (l : List Int) (x : Int) : ints (l ++ [x]) = ints l ++ [.int .i64 x] := by unfold ints; simp
def one (IN : List Int) : Nat → List (Int × Int) := fun _ => IN.map (fun x => (x, 1))
def Q2Rel (w0 : World) (X : Own) (bx j n : Nat) (IN : List Int) (w : World) : Prop :=
  ∃ r, DqAt bx 1 n (one (IN.drop j)) r ∧ Owned w0 w (r ++ X)
theorem head_one (IN : List Int) {j : Nat} (h : j < IN.length) : headI (one (IN.drop j) 0) = IN.getD j 0 ∧ (one (IN.drop j) 0) = [] ++ (IN.getD j 0, 1) :: one (IN.drop (j + 1)) 0 := by
  have e : IN.drop j = IN[j] :: IN.drop (j + 1) := List.drop_eq_getElem_cons h
  have e2 : IN.getD j 0 = IN[j] := by simp [List.getD, h]
  rw [e2]
  unfold one
  rw [e]
  exact ⟨rfl, rfl⟩
theorem last2_one : ∀ (l : List Int) (x : Int), (lastI.lst2 (x, 1) (l.map (fun x => (x, 1)))).1 = (x :: l).getLast (by simp)
  | [], x => rfl
  | y :: l, x => by
    show (lastI.lst2 (y, 1) (l.map (fun x => (x, 1)))).1 = _
    rw [last2_one l y]
    rfl
theorem last_one (IN : List Int) {j : Nat} (h : j < IN.length) : lastI (one (IN.drop j) 0) = IN.getD (IN.length - 1) 0 := by
  have e : IN.drop j = IN[j] :: IN.drop (j + 1) := List.drop_eq_getElem_cons h
  unfold one
  rw [e]
  show (lastI.lst2 (IN[j], 1) ((IN.drop (j + 1)).map (fun x => (x, 1)))).1 = _
  rw [last2_one]
  have e3 : (IN[j] :: IN.drop (j + 1)).getLast (List.cons_ne_nil _ _) = (IN.drop j).getLast (by rw [e]; exact List.cons_ne_nil _ _) := by congr 1; exact e.symm
  rw [e3, List.getLast_drop]
  rw [List.getLast_eq_getElem]
  have : IN.length - 1 < IN.length := by omega
  simp [List.getD, this]
theorem len_one (IN : List Int) (j : Nat) : (one (IN.drop j) 0).length = IN.length - j := by unfold one; simp
def QRel (w0 : World) (F : Own) (bx k : Nat) (v : Value) (w : World) : Prop :=
  ∃ (IN : List Int) (q r : Own) (n : Nat), Row 3 1 v IN.length (ints IN) q ∧ DqAt bx 1 n (one IN) r ∧ Owned w0 w (q ++ (r ++ F)) ∧ IN.length ≤ k ∧ n ≤ k
end
end Go.Proofs.Ytnhdjpeadhcajaa
