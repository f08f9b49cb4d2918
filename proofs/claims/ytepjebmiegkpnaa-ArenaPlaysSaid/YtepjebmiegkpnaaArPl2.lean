/- The statements of layer 6: ArenaPlays, the walk. -/
import Derived.Test.YtepjebmiegkpnaaArPl1
import Derived.Test.YtepjebmiegkpnaaReadsR
import Derived.Deep.RegionHeld3
import Derived.Deep.CutBlock
import Derived.Deep.DeepCutAuto
import Derived.BigQuiet
import Derived.Lib.QuietBelow
namespace Go.Proofs.Ytepjebmiegkpnaa
open Go.RowKit Go.Sep Go.Lib
theorem and_bd6 (x : Int) (m : Nat) (hm : m ≤ 1000000) : ∃ p : Nat, p ≤ m ∧ bits .and .i64 x (m : Int) = (p : Int) := by
  have e : bits .and .i64 x (m : Int) = IntKind.i64.wrap ((BitVec.ofInt 64 x &&& BitVec.ofInt 64 (m : Int)).toNat : Int) := rfl
  rw [e, BitVec.toNat_and, BitVec.ofInt_natCast, BitVec.toNat_ofNat, Nat.mod_eq_of_lt (a := m) (by omega)]
  have h : (BitVec.ofInt 64 x).toNat &&& m ≤ m := Nat.and_le_right
  exact ⟨_, h, by rw [IntKind.wrap_i64]; omega⟩
def FourAt6 (w0 : World) (b off k : Nat) (y0 y1 y2 y3 : Int) : Prop := ∀ (W : World) (l' : Sep.Own), Owned w0 W l' →
  W.cell? ⟨b, off + k * 4, none⟩ = some (.int .i64 y0) ∧ W.cell? ⟨b, off + k * 4 + 1, none⟩ = some (.int .i64 y1) ∧ W.cell? ⟨b, off + k * 4 + 2, none⟩ = some (.int .i64 y2) ∧ W.cell? ⟨b, off + k * 4 + 3, none⟩ = some (.int .i64 y3)
theorem four_at6 {w0 : World} {b off N : Nat} {f : Nat → Nat → Int} (h : ∀ i j, i < N → j < 4 → w0.cell? ⟨b, off + (i * 4 + j), none⟩ = some (.int .i64 (f i j))) {k : Nat} (hk : k < N) : FourAt6 w0 b off k (f k 0) (f k 1) (f k 2) (f k 3) := by
  intro W l' hO
  have h0 := h k 0 hk (by omega)
  have h1 := h k 1 hk (by omega)
  have h2 := h k 2 hk (by omega)
  have h3 := h k 3 hk (by omega)
  rw [Nat.add_zero] at h0
  rw [← Nat.add_assoc] at h1 h2 h3
  exact ⟨(hO.below.cell (p := ⟨b, off + k * 4, none⟩) (World.block_lt_of_cell? _ _ h0)).trans h0, (hO.below.cell (p := ⟨b, off + k * 4 + 1, none⟩) (World.block_lt_of_cell? _ _ h1)).trans h1, (hO.below.cell (p := ⟨b, off + k * 4 + 2, none⟩) (World.block_lt_of_cell? _ _ h2)).trans h2, (hO.below.cell (p := ⟨b, off + k * 4 + 3, none⟩) (World.block_lt_of_cell? _ _ h3)).trans h3⟩
/-- both arenas hold the same -/
def ApAt (w0 : World) (F : Sep.Own) (x y M k : Nat) (w : World) : Prop := ∃ S G r s, Arena x M S G r ∧ RefAr y M S G s ∧ Owned w0 w (r ++ (s ++ F)) ∧ S.length ≤ k
theorem ap_perm (B C : Nat × Obj) (r s F : Sep.Own) : (C :: B :: (r ++ (s ++ F))).Perm (r ++ (s ++ (C :: B :: F))) :=
  ((List.Perm.cons _ ((List.perm_middle (l₁ := r)).symm)).trans (List.perm_middle (l₁ := r)).symm).trans (List.Perm.append_left r ((List.Perm.cons _ ((List.perm_middle (l₁ := s)).symm)).trans (List.perm_middle (l₁ := s)).symm))
theorem min_if6 : ∀ x y : Int, (if x < y then x else y) = min y x := by intro x y; split <;> omega
theorem nodesV_get : ∀ (l : List (Nat × Int × Int)) (j : Nat) (x : Nat × Int × Int), l[j]? = some x → (nodesV l)[j * 2]? = some (.int .i64 x.2.1) ∧ (nodesV l)[j * 2 + 1]? = some (.int .i64 x.2.2)
  | [], j, x, h => by simp at h
  | p :: l, 0, x, h => by simp at h; subst h; exact ⟨rfl, rfl⟩
  | p :: l, j + 1, x, h => by
    have := nodesV_get l j x (by simpa using h)
    rw [show (j + 1) * 2 = j * 2 + 1 + 1 by omega]
    exact ⟨this.1, this.2⟩
theorem ap_perm2 (D : Nat × Obj) (r s L : Sep.Own) : (D :: (r ++ (s ++ L))).Perm (s ++ (r ++ (L ++ [D]))) := by
  have h1 : (D :: (r ++ (s ++ L))).Perm ((r ++ (s ++ L)) ++ [D]) := (List.perm_append_singleton D _).symm
  refine h1.trans ?_
  rw [List.append_assoc, List.append_assoc]
  exact perm2 r s _
theorem ra_most_cell {g M : Nat} {S : Nodes6} {G : List Nat} {s X : Sep.Own} {w0 W : World} (h : RefAr g M S G s) (hO : Owned w0 W (s ++ X)) : W.cell? ⟨g, 0, none⟩ = some (.int .i64 (M : Int)) := by
  obtain ⟨hv, lv, gv, q1, q2, q3, rfl, hI⟩ := h
  exact (Owned.cell (ra_assoc hO) 0).trans rfl
section
variable {w0 : World}
set_option maxHeartbeats 800000 in
set_option maxRecDepth 100000 in
theorem ap_out (most : Int) (u : Value) (N : Nat) (f : Nat → Nat → Int) (hu : ReadsR 4 w0 u N f) (h2 : 200 < N) : Calls Try.prog 7 #[.int .i64 most, u] w0 fun e w' => e = .returned (.bool true) ∧ Below w0.heap.size w0 w' := by
  obtain ⟨hl2, hbd, A2, c2, rfl, _⟩ := hu
  clear hbd
  go_enter Try.func7, Try.ntmps7
  go_wp2_with fail
  go_at_call 8
  refine (small_calls w0).mono ?_
  rintro e w1 ⟨rfl, hb1⟩
  go_wp2_with fail
  go_at_call 9
  refine (ar_new most ((Owned.nil w0).under hb1)).mono ?_
  rintro e w2 ⟨g, r, rfl, hr, hO2⟩
  go_wp2_with fail
  go_at_call 16
  refine (ra_new most hO2).mono ?_
  rintro e w3 ⟨g2, s, rfl, hs, hO3⟩
  go_wp2_with fail
  go_ret
  exact ⟨rfl, hO3.below⟩
set_option maxHeartbeats 6400000 in
set_option maxRecDepth 100000 in
theorem ap_walk (most : Int) (u : Value) (N : Nat) (f : Nat → Nat → Int) (hu : ReadsR 4 w0 u N f) (h2 : N ≤ 200) : Calls Try.prog 7 #[.int .i64 most, u] w0 fun e w' => e = .returned (.bool true) ∧ Below w0.heap.size w0 w' := by
  obtain ⟨hl2, hbd, A2, c2, rfl, hc2⟩ := hu
  have HC := Lib.hid hc2
  clear hc2 hbd
  have hd := fun (w : World) (F : Sep.Own) (h : Owned w0 w F) => ar_new most h
  have hd2 := fun (w : World) (F : Sep.Own) (h : Owned w0 w F) => ra_new most h
  have hM : mostOf most ≤ 65536 := by unfold mostOf; omega
  obtain ⟨M, hm⟩ : ∃ M, mostOf most = M := ⟨_, rfl⟩
  rw [hm] at hd hd2 hM
  clear hm
  go_enter Try.func7, Try.ntmps7
  go_wp2_with fail
  go_at_call 8
  refine (small_calls w0).mono ?_
  rintro e w1 ⟨rfl, hb1⟩
  go_wp2_with fail
  go_at_call 9
  refine (hd _ _ ((Owned.nil w0).under hb1)).mono ?_
  rintro e w2 ⟨bx, r, rfl, hr, hO2⟩
  go_wp2_with fail
  go_at_call 16
  refine (hd2 _ _ hO2).mono ?_
  rintro e w3 ⟨g, s, rfl, hs, hO3⟩
  obtain ⟨F, hO3⟩ : ∃ F, Owned w0 w3 (s ++ (r ++ F)) := ⟨[], hO3⟩
  have HO3 := Lib.hid (show ApAt w0 F bx g M 0 w3 from ⟨_, _, r, s, hr, hs, hO3.comm, Nat.le_refl _⟩)
  have HM := Lib.hid hM
  clear hr hs hO2 hO3 hd hd2 hM
  go_wp2_with fail
  go_loopw [8] (fun x8 wr => ∃ i : Nat, i ≤ N ∧ x8 = .int .i64 (i : Int) ∧ Hid (ApAt w0 F bx g M i wr)) (fun x8 _ => N - (intOf x8).toNat)
  case atStart => exact ⟨0, Nat.zero_le _, rfl, HO3⟩
  case round =>
    clear HO3
    obtain ⟨i, hi, rfl, hrel⟩ := hrel
    by_cases hlt : i < N
    · obtain ⟨b, off, rfl, hcell⟩ := HC.out (by omega)
      have TA := Lib.hid (four_at6 hcell hlt)
      clear hcell HC
      generalize f i 0 = s0 at *
      generalize f i 1 = s1 at *
      generalize f i 2 = s2 at *
      generalize f i 3 = s3 at *
      obtain ⟨p, hp3, hp⟩ := and_bd6 s0 3 (by omega)
      have hp : bits .and .i64 s0 3 = (p : Int) := hp
      obtain ⟨t0, t1, t2, t3⟩ : wr.cell? ⟨b, off + i * 4, none⟩ = some (.int .i64 s0) ∧ wr.cell? ⟨b, off + i * 4 + 1, none⟩ = some (.int .i64 s1) ∧ wr.cell? ⟨b, off + i * 4 + 2, none⟩ = some (.int .i64 s2) ∧ wr.cell? ⟨b, off + i * 4 + 3, none⟩ = some (.int .i64 s3) := by
        obtain ⟨S, G, r, s, hr, hs, hO, hn⟩ := hrel.out
        exact TA.out _ _ hO
      go_upto_block 2 with (fail)
      clear t0 t1 t2 t3 TA
      obtain ⟨B, hB⟩ : ∃ B, wr.heap.size = B := ⟨_, rfl⟩
      obtain ⟨C, hC⟩ : ∃ C, wr.heap.size + 1 = C := ⟨_, rfl⟩
      obtain ⟨WA, hWA⟩ : ∃ WA, (wr.alloc (.cells #[.int .i64 s0, .int .i64 s1, .int .i64 s2, .int .i64 s3] 44)).alloc (.cells #[.int .i64 s2, .int .i64 s3] 30) = WA := ⟨_, rfl⟩
      have HST := Lib.hid (show ∃ S G r s, Arena bx M S G r ∧ RefAr g M S G s ∧ Owned w0 WA (r ++ (s ++ ((C, .cells #[.int .i64 s2, .int .i64 s3] 30 (0, 0)) :: (B, .cells #[.int .i64 s0, .int .i64 s1, .int .i64 s2, .int .i64 s3] 44 (0, 0)) :: F))) ∧ S.length ≤ i from by
        obtain ⟨S, G, r, s, hr, hs, hO, hn⟩ := hrel.out
        refine ⟨S, G, r, s, hr, hs, ?_, hn⟩
        have hOs := (hO.alloc (.cells #[.int .i64 s0, .int .i64 s1, .int .i64 s2, .int .i64 s3] 44)).alloc (.cells #[.int .i64 s2, .int .i64 s3] 30)
        rw [hWA, World.size_alloc, hC, hB] at hOs
        exact hOs.perm (ap_perm _ _ r s F))
      rw [hWA, hC, hB]
      clear hWA hB hC hrel
      have HSC := Lib.hid (show ∀ W (r s : Sep.Own), Owned w0 W (r ++ (s ++ ((C, .cells #[.int .i64 s2, .int .i64 s3] 30 (0, 0)) :: (B, .cells #[.int .i64 s0, .int .i64 s1, .int .i64 s2, .int .i64 s3] 44 (0, 0)) :: F))) → W.cell? ⟨B, 0, none⟩ = some (.int .i64 s0) ∧ W.cell? ⟨B, 1, none⟩ = some (.int .i64 s1) ∧ W.cell? ⟨C, 0, none⟩ = some (.int .i64 s2) ∧ W.cell? ⟨C, 1, none⟩ = some (.int .i64 s3) from fun W r s h => by
        have h1 := h.perm (ap_perm _ _ r s F).symm
        exact ⟨(Owned.cell h1.tail 0).trans rfl, (Owned.cell h1.tail 1).trans rfl, (Owned.cell h1 0).trans rfl, (Owned.cell h1 1).trans rfl⟩)
      go_cut [] (fun wc => Hid (∃ S G r s, Arena bx M S G r ∧ RefAr g M S G s ∧ Owned w0 wc (r ++ (s ++ ((C, .cells #[.int .i64 s2, .int .i64 s3] 30 (0, 0)) :: (B, .cells #[.int .i64 s0, .int .i64 s1, .int .i64 s2, .int .i64 s3] 44 (0, 0)) :: F))) ∧ S.length ≤ i + 1))
      case first =>
        obtain ⟨S, G, r, s, hr, hs, hO, hn⟩ := HST.out
        clear HST
        obtain ⟨hf1, hf2, hf3⟩ := hr.facts
        rcases (show p = 0 ∨ p = 1 ∨ p = 2 ∨ p = 3 by omega) with rfl | rfl | rfl | rfl
        · obtain ⟨S2, G2, a, cc, hp2⟩ : ∃ S2 G2 a cc, putF M S G (s2, s3) = (S2, G2, a, cc) := ⟨_, _, _, _, rfl⟩
          have hle := putF_len M S G (s2, s3)
          have CX := ar_putF s2 s3 hr HM.out hO
          have CY := Lib.hid (fun (W : World) (X : Sep.Own) (h : Owned w0 W (s ++ X)) => ra_putF s2 s3 hs HM.out hf1 hf2 hf3 h)
          rw [hp2] at CX CY hle
          dsimp only at CX CY hle
          obtain ⟨t0, t1, t2, t3⟩ := HSC.out _ _ _ hO
          have HLE := Lib.hid (And.intro hle hn)
          clear hr hs hO hn hle hp2 hf1 hf2 hf3 hp3
          go_wp2_with fail
          go_at_call 10
          refine (CX).mono ?_
          rintro e w4 ⟨r4, rfl, hr4, hO4⟩
          clear t0 t1 t2 t3
          obtain ⟨t0, t1, t2, t3⟩ := HSC.out _ _ _ hO4
          have CY2 := CY.out _ _ hO4.comm
          have HR4 := Lib.hid hr4
          clear CY hr4 hO4
          go_wp2_with fail
          go_at_call 17
          refine (CY2).mono ?_
          rintro e w5 ⟨s5, rfl, hs5, hO5⟩
          have HN := Lib.hid (show ∃ S G r s, Arena bx M S G r ∧ RefAr g M S G s ∧ Owned w0 w5 (r ++ (s ++ ((C, .cells #[.int .i64 s2, .int .i64 s3] 30 (0, 0)) :: (B, .cells #[.int .i64 s0, .int .i64 s1, .int .i64 s2, .int .i64 s3] 44 (0, 0)) :: F))) ∧ S.length ≤ i + 1 from ⟨S2, G2, r4, s5, HR4.out, hs5, hO5.comm, by have := HLE.out; omega⟩)
          clear t0 t1 t2 t3 HR4 hs5 hO5
          go_wp2_with fail
          go_meet
          case rel => exact HN
        · -- Drop
          obtain ⟨S2, G2, cc, hp2⟩ : ∃ S2 G2 cc, dropF S G s1 = (S2, G2, cc) := ⟨_, _, _, rfl⟩
          have hle := (dropF_len S G s1)
          have CX := Lib.hid (fun (W : World) (X : Sep.Own) (h : Owned w0 W (r ++ X)) => ar_dropF s1 hr h)
          have CY := Lib.hid (fun (W : World) (X : Sep.Own) (h : Owned w0 W (s ++ X)) => ra_dropF s1 hs hf1 hf2 h)
          rw [hp2] at CX CY hle
          dsimp only at CX CY hle
          obtain ⟨t0, t1, t2, t3⟩ := HSC.out _ _ _ hO.drew
          have HO := Lib.hid hO.drew
          have HLE := Lib.hid (And.intro hle hn)
          clear hr hs hO hn hle hp2 hf1 hf2 hf3 hp hp3
          go_wp2_with fail
          go_region_held3 (fun w' => w'.cell? ⟨B, 1, none⟩ = some (.int .i64 s1) ∧ w'.cell? ⟨C, 0, none⟩ = some (.int .i64 s2) ∧ w'.cell? ⟨C, 1, none⟩ = some (.int .i64 s3)) (first | exact ⟨t1, t2, t3⟩ | exact t4 | exact t5)
            (first
              | (go_at_call 11; (with_reducible refine (CX.out _ _ HO.out).mono ?_); rintro e w4 ⟨r4, rfl, hr4, hO4⟩; have t4 := (HSC.out _ _ _ hO4).2; have HR4 := Lib.hid hr4; have HO4 := Lib.hid hO4.comm; clear hr4 hO4)
              | (go_at_call 18; (with_reducible refine (CY.out _ _ HO4.out).mono ?_); rintro e w5 ⟨s5, rfl, hs5, hO5⟩; have t5 := (HSC.out _ _ _ hO5.comm).2; have HS5 := Lib.hid hs5; have HO5 := Lib.hid hO5.comm; clear hs5 hO5))
          all_goals
            have HN := Lib.hid (show ∃ S G r s, Arena bx M S G r ∧ RefAr g M S G s ∧ Owned w0 w5 (r ++ (s ++ ((C, .cells #[.int .i64 s2, .int .i64 s3] 30 (0, 0)) :: (B, .cells #[.int .i64 s0, .int .i64 s1, .int .i64 s2, .int .i64 s3] 44 (0, 0)) :: F))) ∧ S.length ≤ i + 1 from ⟨S2, G2, r4, s5, HR4.out, HS5.out, HO5.out, by have := HLE.out; omega⟩)
            clear t1 t2 t3 t4 t5 HR4 HO4 HS5 HO5 CX CY HO
            go_wp2_with fail
            go_meet
            case rel => exact HN
        · -- Set
          obtain ⟨S2, cc, hp2⟩ : ∃ S2 cc, setF S s1 (s2, s3) = (S2, cc) := ⟨_, _, rfl⟩
          have hle := (setF_len S s1 (s2, s3))
          have CX := Lib.hid (fun (W : World) (X : Sep.Own) (h : Owned w0 W (r ++ X)) => ar_setF s1 s2 s3 hr h)
          have CY := Lib.hid (fun (W : World) (X : Sep.Own) (h : Owned w0 W (s ++ X)) => ra_setF s1 s2 s3 hs hf1 h)
          rw [hp2] at CX CY hle
          dsimp only at CX CY hle
          obtain ⟨t0, t1, t2, t3⟩ := HSC.out _ _ _ hO.drew
          have HO := Lib.hid hO.drew
          have HLE := Lib.hid (And.intro hle hn)
          clear hr hs hO hn hle hp2 hf1 hf2 hf3 hp hp3
          go_wp2_with fail
          go_region_held3 (fun w' => w'.cell? ⟨B, 1, none⟩ = some (.int .i64 s1) ∧ w'.cell? ⟨C, 0, none⟩ = some (.int .i64 s2) ∧ w'.cell? ⟨C, 1, none⟩ = some (.int .i64 s3)) (first | exact ⟨t1, t2, t3⟩ | exact t4 | exact t5)
            (first
              | (go_at_call 15; (with_reducible refine (CX.out _ _ HO.out).mono ?_); rintro e w4 ⟨r4, rfl, hr4, hO4⟩; have t4 := (HSC.out _ _ _ hO4).2; have HR4 := Lib.hid hr4; have HO4 := Lib.hid hO4.comm; clear hr4 hO4)
              | (go_at_call 19; (with_reducible refine (CY.out _ _ HO4.out).mono ?_); rintro e w5 ⟨s5, rfl, hs5, hO5⟩; have t5 := (HSC.out _ _ _ hO5.comm).2; have HS5 := Lib.hid hs5; have HO5 := Lib.hid hO5.comm; clear hs5 hO5))
          all_goals
            have HN := Lib.hid (show ∃ S G r s, Arena bx M S G r ∧ RefAr g M S G s ∧ Owned w0 w5 (r ++ (s ++ ((C, .cells #[.int .i64 s2, .int .i64 s3] 30 (0, 0)) :: (B, .cells #[.int .i64 s0, .int .i64 s1, .int .i64 s2, .int .i64 s3] 44 (0, 0)) :: F))) ∧ S.length ≤ i + 1 from ⟨S2, G, r4, s5, HR4.out, HS5.out, HO5.out, by have := HLE.out; omega⟩)
            clear t1 t2 t3 t4 t5 HR4 HO4 HS5 HO5 CX CY HO
            go_wp2_with fail
            go_meet
            case rel => exact HN
        · have HN := Lib.hid (show ∃ S G r s, Arena bx M S G r ∧ RefAr g M S G s ∧ Owned w0 WA (r ++ (s ++ ((C, .cells #[.int .i64 s2, .int .i64 s3] 30 (0, 0)) :: (B, .cells #[.int .i64 s0, .int .i64 s1, .int .i64 s2, .int .i64 s3] 44 (0, 0)) :: F))) ∧ S.length ≤ i + 1 from ⟨S, G, r, s, hr, hs, hO, by omega⟩)
          clear hr hs hO hn hf1 hf2 hf3 hp3
          go_wp2_with fail
          go_meet
          case rel => exact HN
      case rest =>
        clear HST hp hp3
        obtain ⟨S, G, r, s, hr, hs, hO, hn⟩ := hcut.out
        clear hcut
        obtain ⟨hf1, hf2, hf3⟩ := hr.facts
        obtain ⟨ka, kv, kc, hg⟩ : ∃ a z c, getF S s1 = ((a, z), c) := ⟨_, _, _, rfl⟩
        have CX := ar_getF s1 hr hO
        have CY := Lib.hid (fun (W : World) (X : Sep.Own) (h : Owned w0 W (s ++ X)) => ra_getF s1 hs hf1 h)
        rw [hg] at CX CY
        dsimp only at CX CY
        obtain ⟨t0, t1, t2, t3⟩ := HSC.out _ _ _ hO
        obtain ⟨hl, hhl⟩ : ∃ hl : Int, ((S.length - G.length : Nat) : Int) = hl := ⟨_, rfl⟩
        have hhl2 : (S.length : Int) - (G.length : Int) = hl := by omega
        have CLx := Lib.hid (fun (W : World) (X : Sep.Own) (h : Owned w0 W (r ++ X)) => (ar_len hr h).mono (R' := fun e w' => e = .returned (.int .i64 hl) ∧ Below W.heap.size W w') (by rintro e w' ⟨rfl, rfl⟩; exact ⟨by rw [hhl], Below.refl _ _⟩))
        have CMx := Lib.hid (fun (W : World) (X : Sep.Own) (h : Owned w0 W (r ++ X)) => (ar_most hr h).mono (R' := fun e w' => e = .returned (.int .i64 (M : Int)) ∧ Below W.heap.size W w') (by rintro e w' ⟨rfl, rfl⟩; exact ⟨rfl, Below.refl _ _⟩))
        have CLy := Lib.hid (fun (W : World) (X : Sep.Own) (h : Owned w0 W (s ++ X)) => (ra_len hs (by omega) (by omega) h).mono (R' := fun e w' => e = .returned (.int .i64 hl) ∧ Below W.heap.size W w') (by rintro e w' ⟨rfl, rfl⟩; exact ⟨by rw [hhl2], (Below.refl _ _).drew⟩))
        have RMy := Lib.hid (fun (W : World) (X : Sep.Own) (h : Owned w0 W (s ++ X)) => ra_most_cell hs h)
        have HH := Lib.hid (And.intro hr (And.intro hs hn))
        clear hr hs hO hn hf1 hf2 hf3 hg hhl hhl2
        go_wp2_with fail
        go_at_call 12
        refine (CX).mono ?_
        rintro e w5 ⟨rfl, hO5⟩
        have hD := hO5.alloc (.cells #[.int .i64 ka, .int .i64 kv] 30)
        have hD2 : Owned w0 (w5.alloc (.cells #[.int .i64 ka, .int .i64 kv] 30)) (s ++ (r ++ ((C, .cells #[.int .i64 s2, .int .i64 s3] 30 (0, 0)) :: (B, .cells #[.int .i64 s0, .int .i64 s1, .int .i64 s2, .int .i64 s3] 44 (0, 0)) :: F ++ [(w5.heap.size, .cells #[.int .i64 ka, .int .i64 kv] 30 (0, 0))]))) := hD.perm (ap_perm2 _ r s _)
        clear t0 t1 t2 t3
        have HD := Lib.hid hD2
        have t1 : (w5.alloc (.cells #[.int .i64 ka, .int .i64 kv] 30)).cell? ⟨B, 1, none⟩ = some (.int .i64 s1) := (HSC.out _ _ _ hD.tail).2.1
        have CY2 := CY.out _ _ hD2
        have HDc := Lib.hid (show ∀ W (r s : Sep.Own), Owned w0 W (s ++ (r ++ ((C, .cells #[.int .i64 s2, .int .i64 s3] 30 (0, 0)) :: (B, .cells #[.int .i64 s0, .int .i64 s1, .int .i64 s2, .int .i64 s3] 44 (0, 0)) :: F ++ [(w5.heap.size, .cells #[.int .i64 ka, .int .i64 kv] 30 (0, 0))]))) → W.cell? ⟨w5.heap.size, 0, none⟩ = some (.int .i64 ka) ∧ W.cell? ⟨w5.heap.size, 1, none⟩ = some (.int .i64 kv) from fun W r s h => by
          have h1 := h.perm (ap_perm2 _ r s _).symm
          exact ⟨(Owned.cell h1 0).trans rfl, (Owned.cell h1 1).trans rfl⟩)
        clear CY hD hD2 hO5
        go_wp2_with fail
        go_at_call 20
        refine (CY2).mono ?_
        rintro e w6 ⟨rfl, hO6⟩
        have hE := hO6.alloc (.cells #[.int .i64 ka, .int .i64 kv] 30)
        obtain ⟨u0, u1⟩ := HDc.out _ _ _ (hO6.alloc_ (.cells #[.int .i64 ka, .int .i64 kv] 30))
        have u2 : (w6.alloc (.cells #[.int .i64 ka, .int .i64 kv] 30)).cell? ⟨w6.heap.size, 0, none⟩ = some (.int .i64 ka) := (Owned.cell hE 0).trans rfl
        have u3 : (w6.alloc (.cells #[.int .i64 ka, .int .i64 kv] 30)).cell? ⟨w6.heap.size, 1, none⟩ = some (.int .i64 kv) := (Owned.cell hE 1).trans rfl
        have HE := Lib.hid hE.tail
        clear hE hO6 HDc t1
        generalize w5.heap.size = D at *
        go_wp2_with fail
        generalize w6.alloc (.cells #[.int .i64 ka, .int .i64 kv] 30) = w7 at *
        generalize w6.heap.size = E at *
        have ul := fun d os => CLx.out _ _ (HE.out.comm.under (below_regrown w7 d os))
        have um := fun d os => CMx.out _ _ (HE.out.comm.under (below_regrown w7 d os))
        have uy := fun d os => CLy.out _ _ (HE.out.under (below_regrown w7 d os))
        have u4 := RMy.out _ _ HE.out
        have u0r := cell_regrown u0
        have u1r := cell_regrown u1
        have u2r := cell_regrown u2
        have u3r := cell_regrown u3
        have u4r := cell_regrown u4
        clear CLx CMx CLy RMy HSC
        refine wp_region_quiet_below (by kernel_rfl) (by kernel_rfl) ?_
        repeat (first | go_big_quiet_step ((first | (go_at_call 13; with_reducible exact Calls.regrown_of (ul _ _)) | (go_at_call 14; with_reducible exact Calls.regrown_of (um _ _)) | (go_at_call 21; with_reducible exact Calls.regrown_of (uy _ _)))) | quiet_step ((first | (go_at_call 13; with_reducible exact Calls.regrown_of (ul _ _)) | (go_at_call 14; with_reducible exact Calls.regrown_of (um _ _)) | (go_at_call 21; with_reducible exact Calls.regrown_of (uy _ _)))))
        refine wpQuiet_nil ?_
        intro _ hw'
        obtain ⟨⟨dq, osq⟩, hw''⟩ := hw'
        subst hw''
        have HN := Lib.hid (show ApAt w0 F bx g M (i + 1) (Go.Sort.grow (redrawn w7 dq) osq) from ⟨S, G, r, s, HH.out.1, HH.out.2.1, ((HE.out.under (below_regrown w7 dq osq)).comm).sub (List.Sublist.append (List.Sublist.refl r) (List.Sublist.append (List.Sublist.refl s) (((List.sublist_cons_self _ _).trans (List.sublist_cons_self _ _)).trans (List.sublist_append_left _ _)))), HH.out.2.2⟩)
        clear u0 u1 u2 u3 u4 u0r u1r u2r u3r u4r HE HH ul um uy
        go_wp2_with fail
        go_roundw
        case rel => exact ⟨i + 1, by omega, by go_num, HN⟩
        case measure => simp [intOf]; omega
    · obtain rfl : i = N := by omega
      clear HC hlt
      obtain ⟨S, G, r, s, hr, hs, hO, hn⟩ := hrel.out
      clear hrel
      have hal : (allN 1 S).length ≤ 200 := by have := allN_len S 1; omega
      have CA := ar_all 1000 (by omega) hr hO
      rw [show ((1000 : Nat) : Int) = 1000 from rfl, List.take_of_length_le (by omega)] at CA
      have CB := Lib.hid (fun (W : World) (X : Sep.Own) (h : Owned w0 W (r ++ X)) => (by
        have h9 := ar_all 1 (by omega) hr h
        rw [show ((1 : Nat) : Int) = 1 from rfl] at h9
        exact h9 : Calls Try.prog 22 #[.pointer (some ⟨bx, 0, none⟩), .int .i64 1] W fun e w' => ∃ v1 v2 q1 q2, e = .returned (.tuple #[v1, v2]) ∧ Row 3 1 v1 ((allN 1 S).take 1).length (ints (numsOf ((allN 1 S).take 1))) q1 ∧ Row 30 2 v2 ((allN 1 S).take 1).length (nodesV ((allN 1 S).take 1)) q2 ∧ Owned w0 w' (q1 ++ (q2 ++ (r ++ X)))))
      obtain ⟨L, hL⟩ : ∃ L, (allN 1 S).length = L := ⟨_, rfl⟩
      rw [hL] at CA hal
      obtain ⟨n, hn2⟩ : ∃ n, S.length = n := ⟨_, rfl⟩
      have hnb : n ≤ 200 := by omega
      obtain ⟨hv, lv, gv, q3, q4, q5, rfl, hI⟩ := hs
      obtain ⟨bh, ch, bl, cl, gA, gc, rfl, rfl, rfl, hc⟩ := ra_reads (w0 := w0) (g := g) (M := M) hI
      have HY := Lib.hid hc
      obtain ⟨s, hse⟩ : ∃ s, RaB g M (.slice (some ⟨bh, 0, none⟩) (S.length + 1) ch) (.slice (some ⟨bl, 0, none⟩) (S.length + 1) cl) (.slice gA G.length gc) q3 q4 q5 = s := ⟨_, rfl⟩
      rw [hse] at HY hO
      rw [hse] at CA
      have HS := Lib.hid (And.intro hL hn2)
      clear hc hI hr hse hO hn
      rw [hn2] at HY
      go_wp2_with fail
      go_at_call 22
      refine (CA).mono ?_
      rintro e w4 ⟨v1, v2, q1, q2, rfl, hrow1, hrow2, hO4⟩
      obtain ⟨A1, c1, rfl⟩ := hrow1.slice
      obtain ⟨A3, c3, rfl⟩ := hrow2.slice
      have HR1 := Lib.hid (And.intro hrow1 hrow2)
      have HO4 := Lib.hid hO4
      clear hrow1 hrow2 hO4 hL hn2
      go_wp2_with fail
      go_loopw [21, 22] (fun x21 x22 wr => ∃ j : Nat, j ≤ n ∧ x21 = .int .i64 (cntN S j : Nat) ∧ x22 = .int .i64 ((j + 1 : Nat) : Int) ∧ Hid (Owned w0 wr (q1 ++ (q2 ++ (r ++ (s ++ F)))))) (fun _ x22 _ => n + 1 - (intOf x22).toNat)
      case atStart => exact ⟨0, Nat.zero_le _, rfl, rfl, HO4⟩
      case round =>
        clear HO4
        obtain ⟨j, hj, rfl, rfl, hrel⟩ := hrel
        obtain ⟨y0, y1, y2, y3, hcell⟩ := HY.out _ _ hrel.out.drop_.drop_.drop_
        by_cases hjn : j < n
        · obtain ⟨o, ho⟩ : ∃ o, S[j]? = some o := ⟨_, List.getElem?_eq_getElem (by rw [HS.out.2]; exact hjn)⟩
          obtain ⟨z0, z1, z2⟩ := hcell j o ho
          have k0 : (0 : Int) ≤ (j : Int) + 1 := by omega
          have k1 : (j : Int) + 1 < (n : Int) + 1 := by omega
          clear hcell
          cases o with
          | none =>
            have HK := Lib.hid (cntN_none ho)
            have HN := Lib.hid hrel.out
            clear hrel ho HY CB
            simp only [Option.isSome_none] at z0
            generalize cntN S j = ck at *
            go_wp2_with fail
            go_roundw
            case rel => exact ⟨j + 1, by omega, by rw [HK.out], by go_num, HN⟩
            case measure => simp [intOf]; omega
          | some pr =>
            obtain ⟨hc1, hc2⟩ := cntN_some ho
            have hlt2 : cntN S j < L := by have := (List.getElem?_eq_some_iff.1 hc2).1; rw [HS.out.1] at this; exact this
            obtain ⟨b1, c1', e1, -⟩ := row_some HR1.out.1 (by omega)
            obtain ⟨b2, c2', e2, -⟩ := row_some HR1.out.2 (by omega)
            injection e1 with e1 _ e1'
            injection e2 with e2 _ e2'
            subst e1 e2 e1' e2'
            have x1 := (row_cells6 HR1.out.1 hrel.out (cntN S j) (.int .i64 ((j + 1 : Nat) : Int)) (by unfold ints numsOf; rw [List.getElem?_map, List.getElem?_map, hc2]; rfl)).1
            have x2 := (row_cells6 HR1.out.2 hrel.out.drop_ (cntN S j * 2) (.int .i64 pr.1) (nodesV_get _ _ _ hc2).1).1
            have x3 := (row_cells6 HR1.out.2 hrel.out.drop_ (cntN S j * 2 + 1) (.int .i64 pr.2) (nodesV_get _ _ _ hc2).2).1
            have HK := Lib.hid hc1
            have HN0 := hrel.out
            have HN := Lib.hid HN0
            simp only [Option.isSome_some, Option.getD_some] at z0 z1 z2
            clear hrel ho HY CB hc1 hc2 HN0
            generalize cntN S j = ck at *
            generalize pr.1 = pa at *
            generalize pr.2 = pb at *
            have k3 : (0 : Int) ≤ (ck : Int) := by omega
            have k4 : (ck : Int) < (L : Int) := by omega
            have k5 : ¬ (L : Int) ≤ (ck : Int) := by omega
            have k6 : decide ((L : Int) ≤ (ck : Int)) = false := by simp; omega
            have x1r := cell_regrown x1
            have x2r := cell_regrown x2
            have x3r := cell_regrown x3
            have y2r := cell_regrown y2
            have z1r := cell_regrown z1
            have z2r := cell_regrown z2
            go_wp2_with fail
            refine wp_region_quiet_below (by kernel_rfl) (by kernel_rfl) ?_
            repeat (first | go_big_quiet_step ((first | (go_at_call 8; with_reducible exact Calls.regrown_of (small_calls _)))) | quiet_step ((first | (go_at_call 8; with_reducible exact Calls.regrown_of (small_calls _)))))
            refine wpQuiet_nil ?_
            intro _ hw'
            obtain ⟨⟨dq, osq⟩, hw''⟩ := hw'
            subst hw''
            have HN2 := Lib.hid (HN.out.under (below_regrown _ dq osq))
            clear x1 x2 x3 x1r x2r x3r y0 y1 y2 y3 y2r z0 z1 z2 z1r z2r HN
            go_wp2_with fail
            go_roundw
            case rel => exact ⟨j + 1, by omega, by rw [HK.out]; go_num, by go_num, HN2⟩
            case measure => simp [intOf]; omega
        · obtain rfl : j = n := by omega
          have hcn : cntN S j = L := by
            have h9 := cntN_all S
            rw [HS.out.2, HS.out.1] at h9
            exact h9
          rw [hcn]
          have CC := CB.out _ _ hrel.out.drop_.drop_
          have hT : ((allN 1 S).take 1).length = min 1 L := by rw [List.length_take, HS.out.1]
          rw [hT] at CC
          clear hrel hcell CB HR1 HY hcn hT
          go_wp2_with fail
          go_at_call 22
          refine (CC).mono ?_
          rintro e w6 ⟨v5, v6, q6, q7, rfl, hrow5, hrow6, hO6⟩
          obtain ⟨A5, c5, rfl⟩ := hrow5.slice
          obtain ⟨A6, c6, rfl⟩ := hrow6.slice
          have hmin := min_if6
          have hfin := hO6.below
          clear hrow5 hrow6 hO6 HS y0 y1 y2 y3
          cases L with
          | zero =>
            rw [show min 1 0 = 0 from rfl]
            go_wp2_with fail
            go_ret
            exact ⟨rfl, hfin⟩
          | succ p =>
            have m0 : min 1 (p + 1) = 1 := by omega
            rw [m0]
            have m1 : min (1 : Int) ((p : Int) + 1) = 1 := by omega
            have m2 : min ((p : Int) + 1) (1 : Int) = 1 := by omega
            have m3 : min (1 : Int) ((p + 1 : Nat) : Int) = 1 := by omega
            have m4 : min ((p + 1 : Nat) : Int) (1 : Int) = 1 := by omega
            go_wp2_with fail
            go_ret
            exact ⟨rfl, hfin⟩
end
end Go.Proofs.Ytepjebmiegkpnaa
