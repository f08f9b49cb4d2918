/- Merged texts: Layer 11: two policies side by side. Layer 11: rows of events of one's own; contracts that tell lengths. -/
import Derived.Test.YtnhdjpeadhcajaaK46
namespace Go.Proofs.Ytnhdjpeadhcajaa
open Go.RowKit Go.Sep DqPure
set_option maxRecDepth 100000
section
variable {g k gx gy kx ky : Nat} {P Px Py : PSt} {F : Sep.Own} {w0 w : World}
def Both (w0 : World) (F : Sep.Own) (gx kx : Nat) (Px : PSt) (gy ky : Nat) (Py : PSt) (w : World) : Prop := ∃ ry, PolAt gy ky Py ry ∧ Stands w0 (ry ++ F) gx kx Px w
theorem Both.swap (h : Both w0 F gx kx Px gy ky Py w) : Both w0 F gy ky Py gx kx Px w := by
  obtain ⟨ry, hy, rx, hx, hO⟩ := h
  exact ⟨rx, hx, ry, hy, hO.comm⟩
theorem Both.under {w' : World} (h : Both w0 F gx kx Px gy ky Py w) (hb : Below w.heap.size w w') : Both w0 F gx kx Px gy ky Py w' := by
  obtain ⟨ry, hy, hs⟩ := h
  exact ⟨ry, hy, hs.under hb⟩
theorem Both.first (h : Both w0 F gx kx Px gy ky Py w) : ∃ G : Sep.Own, Stands w0 (G ++ F) gx kx Px w := by
  obtain ⟨ry, hy, hs⟩ := h
  exact ⟨ry, hs⟩
theorem Both.perm {F' : Sep.Own} (h : Both w0 F gx kx Px gy ky Py w) (hp : F.Perm F') : Both w0 F' gx kx Px gy ky Py w := by
  obtain ⟨ry, hy, hs⟩ := h
  exact ⟨ry, hy, hs.perm (List.Perm.append_left ry hp)⟩
theorem Both.sub {F' : Sep.Own} (h : Both w0 F gx kx Px gy ky Py w) (hp : F'.Sublist F) : Both w0 F' gx kx Px gy ky Py w := by
  obtain ⟨ry, hy, hs⟩ := h
  exact ⟨ry, hy, hs.sub ((List.Sublist.refl ry).append hp)⟩
theorem Both.own (h : Both w0 F gx kx Px gy ky Py w) : ∃ q : Sep.Own, Owned w0 w (q ++ F) := by
  obtain ⟨ry, hy, rx, hx, hO⟩ := h
  exact ⟨rx ++ ry, by rw [List.append_assoc]; exact hO⟩
theorem Both.reads {rq : Sep.Own} {v : Value} {l : List Int} (h : Both w0 (rq ++ F) gx kx Px gy ky Py w) (hr : Row 3 1 v l.length (ints l) rq) : Reads w v l := by
  obtain ⟨q, hO⟩ := h.own
  exact reads_in hr hO.comm
theorem b_of {q : Sep.Own} {ry : Sep.Own} (hy : PolAt gy ky Py ry) (h : Stands w0 (q ++ (ry ++ F)) gx kx Px w) : Both w0 (q ++ F) gx kx Px gy ky Py w := ⟨ry, hy, h.perm (perm2 q ry F)⟩
theorem b_two (hx : Stands w0 F gx kx Px w) {w' : World} (hO : ∀ G : Sep.Own, Owned w0 w (G ++ F) → Stands w0 (G ++ F) gy ky Py w') : Both w0 F gx kx Px gy ky Py w' := by
  obtain ⟨rx, hx, hO1⟩ := hx
  exact Both.swap ⟨rx, hx, hO rx hO1⟩
theorem b_new (hx : Stands w0 F gx kx Px w) (cap seed : Int) :
    Calls Try.prog 10 #[.int .i64 cap, .int .i64 seed] w fun e w' => ∃ gy, e = .returned (.pointer (some ⟨gy, 0, none⟩)) ∧ Both w0 F gx kx Px gy 0 (PSt.new cap seed) w' := by
  obtain ⟨rx, hx, hO⟩ := hx
  refine (y_new cap seed hO).mono ?_
  rintro e w' ⟨gy, rfl, hs⟩
  exact ⟨gy, rfl, Both.swap ⟨rx, hx, hs⟩⟩
theorem b_do (hb : Both w0 F gx kx Px gy ky Py w) (hk : kx ≤ 999990) (d nd key wt : Int) (hnd : wfk nd) (hkey : wfk key) :
    Calls Try.prog 12 #[.pointer (some ⟨gx, 0, none⟩), .agg #[.int .i64 d, .int .i64 nd, .int .i64 key, .int .i64 wt]] w fun e w' => ∃ v rq, e = .returned (.tuple #[v, .int .i64 (Px.act d nd key wt).2.2]) ∧ Row 3 1 v (Px.act d nd key wt).2.1.length (ints (Px.act d nd key wt).2.1) rq ∧ Both w0 (rq ++ F) gx (kx + 2) (Px.act d nd key wt).1 gy ky Py w' := by
  obtain ⟨ry, hy, hs⟩ := hb
  refine (y_do hs hk d nd key wt hnd hkey).mono ?_
  rintro e w' ⟨v, rq, rfl, h1, h2⟩
  exact ⟨v, rq, rfl, h1, b_of hy h2⟩
theorem b_row (hb : Both w0 F gx kx Px gy ky Py w) (hk : kx ≤ 1000000) (x : Int) :
    Calls Try.prog 13 #[.pointer (some ⟨gx, 0, none⟩), .int .i64 x] w fun e w' => ∃ v rq, e = .returned v ∧ Row 3 1 v (Px.row x).length (ints (Px.row x)) rq ∧ Both w0 (rq ++ F) gx kx Px gy ky Py w' := by
  obtain ⟨ry, hy, hs⟩ := hb
  refine (y_row hs hk x).mono ?_
  rintro e w' ⟨v, rq, rfl, h1, h2⟩
  exact ⟨v, rq, rfl, h1, b_of hy h2⟩
theorem b_play {v : Value} {len : Nat} {f : Nat → Nat → Int} (hb : Both w0 F gx kx Px gy ky Py w) (hv : EvIn w0 F v len f) (hlen : len ≤ 400) (hk : kx ≤ 900000) :
    Calls Try.prog 16 #[.pointer (some ⟨gx, 0, none⟩), v] w fun e w' => ∃ u rq, e = .returned u ∧ Row 3 1 u (Px.play (evL len f)).2.length (ints (Px.play (evL len f)).2) rq ∧ Both w0 (rq ++ F) gx (kx + 2 * len) (Px.play (evL len f)).1 gy ky Py w' := by
  obtain ⟨ry, hy, hs⟩ := hb
  refine (p_play (hv.more ry) hlen hk hs).mono ?_
  rintro e w' ⟨v, rq, rfl, h1, h2⟩
  exact ⟨v, rq, rfl, h1, b_of hy h2⟩
theorem act_bad {d nd key wt : Int} (h : (P.act d nd key wt).2.2 ≠ 0) : (P.act d nd key wt).1 = P ∧ (P.act d nd key wt).2.1 = [] := by
  unfold PSt.act at h ⊢
  by_cases hm : P.may d nd wt ≠ 0
  · rw [if_pos hm]
    exact ⟨rfl, rfl⟩
  · rw [if_neg hm] at h
    exfalso
    apply h
    split
    · rfl
    · split
      · rfl
      · split <;> rfl
end
end Go.Proofs.Ytnhdjpeadhcajaa
namespace Go.Proofs.Ytnhdjpeadhcajaa
open Go.RowKit Go.Sep DqPure
set_option maxRecDepth 100000
def evV (len : Nat) (f : Nat → Nat → Int) : List Value := (List.range (len * 4)).map (fun t => .int .i64 (f (t / 4) (t % 4)))
theorem evV_len (len : Nat) (f : Nat → Nat → Int) : (evV len f).length = len * 4 := by unfold evV; simp
theorem evV_get {len : Nat} (f : Nat → Nat → Int) {t : Nat} (h : t < len * 4) : (evV len f)[t]? = some (.int .i64 (f (t / 4) (t % 4))) := by
  unfold evV
  rw [List.getElem?_map, List.getElem?_range h]
  rfl
theorem evV_at {len : Nat} (f : Nat → Nat → Int) {i j : Nat} (hi : i < len) (hj : j < 4) : (evV len f)[i * 4 + j]? = some (.int .i64 (f i j)) := by
  rw [evV_get f (by omega), show (i * 4 + j) / 4 = i by omega, show (i * 4 + j) % 4 = j by omega]
theorem evV_one (len : Nat) (f : Nat → Nat → Int) : ∀ u ∈ evV len f, u.oneCell' = true := fun u hu => by
  obtain ⟨t, -, rfl⟩ := List.mem_map.1 hu
  rfl
theorem info_ev : (Try.prog.info? 28).map (fun i => (i.zero, i.size, i.bytes)) = some (some (.agg #[.int .i64 0, .int .i64 0, .int .i64 0, .int .i64 0]), 4, 32) := by kernel_rfl
section
variable {g k gx gy kx ky : Nat} {P Px Py : PSt} {F : Sep.Own} {w0 w : World}
theorem Stands.opened (h : Stands w0 F g k P w) : ∃ T : Sep.Own, Owned w0 w (T ++ F) ∧ ∀ (F' : Sep.Own) (w' : World), Owned w0 w' (T ++ F') → Stands w0 F' g k P w' := by
  obtain ⟨r, hr, hO⟩ := h
  exact ⟨r, hO, fun F' w' hO' => ⟨r, hr, hO'⟩⟩
theorem Both.opened (h : Both w0 F gx kx Px gy ky Py w) : ∃ T : Sep.Own, Owned w0 w (T ++ F) ∧ ∀ (F' : Sep.Own) (w' : World), Owned w0 w' (T ++ F') → Both w0 F' gx kx Px gy ky Py w' := by
  obtain ⟨ry, hy, rx, hx, hO⟩ := h
  refine ⟨rx ++ ry, by rw [List.append_assoc]; exact hO, fun F' w' hO' => ⟨ry, hy, rx, hx, ?_⟩⟩
  rw [List.append_assoc] at hO'
  exact hO'
theorem y_doL (hs : Stands w0 F g k P w) (hk : k ≤ 999990) (d nd key wt : Int) (hnd : wfk nd) (hkey : wfk key) :
    Calls Try.prog 12 #[.pointer (some ⟨g, 0, none⟩), .agg #[.int .i64 d, .int .i64 nd, .int .i64 key, .int .i64 wt]] w fun e w' => ∃ v rq, e = .returned (.tuple #[v, .int .i64 (P.act d nd key wt).2.2]) ∧ Row 3 1 v (P.act d nd key wt).2.1.length (ints (P.act d nd key wt).2.1) rq ∧ Stands w0 (rq ++ F) g (k + 2) (P.act d nd key wt).1 w' ∧ (P.act d nd key wt).2.1.length ≤ 3 * (k + 2) := by
  obtain ⟨_, _, _, _, _, _, _, hin, hO⟩ := hs.open_
  exact p_do hin hk d nd key wt hnd hkey hO
theorem b_doL (hb : Both w0 F gx kx Px gy ky Py w) (hk : kx ≤ 999990) (d nd key wt : Int) (hnd : wfk nd) (hkey : wfk key) :
    Calls Try.prog 12 #[.pointer (some ⟨gx, 0, none⟩), .agg #[.int .i64 d, .int .i64 nd, .int .i64 key, .int .i64 wt]] w fun e w' => ∃ v rq, e = .returned (.tuple #[v, .int .i64 (Px.act d nd key wt).2.2]) ∧ Row 3 1 v (Px.act d nd key wt).2.1.length (ints (Px.act d nd key wt).2.1) rq ∧ Both w0 (rq ++ F) gx (kx + 2) (Px.act d nd key wt).1 gy ky Py w' ∧ (Px.act d nd key wt).2.1.length ≤ 3 * (kx + 2) := by
  obtain ⟨ry, hy, hs⟩ := hb
  refine (y_doL hs hk d nd key wt hnd hkey).mono ?_
  rintro e w' ⟨v, rq, rfl, h1, h2, h3⟩
  exact ⟨v, rq, rfl, h1, b_of hy h2, h3⟩
theorem EvIn.of_row {v : Value} {len : Nat} {f : Nat → Nat → Int} {r : Sep.Own} (h : Row 28 4 v len (evV len f) r) (hw : ∀ i j, i < len → j < 4 → wfk (f i j)) : EvIn w0 (r ++ F) v len f := by
  refine ⟨?_, hw⟩
  rcases h.2 with ⟨rfl, rfl, rfl⟩ | ⟨b, cap, cur, rfl, rfl, h1, h2, h3, h4⟩
  · exact ⟨none, 0, rfl, fun hp => absurd hp (by omega)⟩
  · refine ⟨some ⟨b, 0, none⟩, cap, rfl, fun _ => ⟨b, 0, rfl, fun W q hO i j hi hj => ?_⟩⟩
    have h5 : Owned w0 W ((b, .cells cur 28 (0, 0)) :: (q ++ F)) := hO.perm List.perm_middle
    rw [Nat.zero_add]
    refine (h5.cell _).trans ?_
    have h6 := evV_at f hi hj
    rw [← h4, List.getElem?_take, if_pos (by omega)] at h6
    simpa using h6
theorem reads_ev {w : World} {A : Option Addr} {len c : Nat} {f : Nat → Nat → Int} (h : ReadsR 4 w (.slice A len c) len f) : ∀ ad, A = some ad → ∀ j u, (evV len f)[j]? = some u → w.cell? (ad.add j) = some u := by
  obtain ⟨-, -, A', c', hv, h2, -⟩ := h
  injection hv with e1 e2 e3
  subst e1
  intro ad had t u hj
  have hlt : t < len * 4 := by
    have := (List.getElem?_eq_some_iff.1 hj).1
    rwa [evV_len] at this
  obtain ⟨b, o, hA, hc⟩ := h2 (by omega)
  rw [hA] at had
  injection had with had
  subst had
  rw [evV_get f hlt] at hj
  injection hj with hj
  subst hj
  rw [Addr.add_mid]
  have := hc (t / 4) (t % 4) (by omega) (by omega)
  rw [show t / 4 * 4 + t % 4 = t by omega] at this
  exact this
theorem readsr_none {w : World} {A : Option Addr} {len c : Nat} {f : Nat → Nat → Int} (h : ReadsR 4 w (.slice A len c) len f) : A = none → len = 0 ∧ c = 0 := by
  obtain ⟨-, -, A', c', hv, h2, h3⟩ := h
  injection hv with e1 e2 e3
  subst e1
  intro e
  refine ⟨?_, by rw [e3]; exact h3 e⟩
  rcases Nat.eq_zero_or_pos len with h | h
  · exact h
  · obtain ⟨b, o, h9, -⟩ := h2 h
    rw [e] at h9
    cases h9
theorem readsr_below {w' : World} {n : Nat} {v : Value} {len : Nat} {f : Nat → Nat → Int} (h : ReadsR n w v len f) (hb : Below w.heap.size w w') : ReadsR n w' v len f := by
  obtain ⟨h1, h2, A, c, rfl, h3, h4⟩ := h
  refine ⟨h1, h2, A, c, rfl, fun hp => ?_, h4⟩
  obtain ⟨b, o, rfl, hc⟩ := h3 hp
  exact ⟨b, o, rfl, fun i j hi hj => (hb.cell (World.block_lt_of_cell? _ _ (hc i j hi hj))).trans (hc i j hi hj)⟩
end
end Go.Proofs.Ytnhdjpeadhcajaa
