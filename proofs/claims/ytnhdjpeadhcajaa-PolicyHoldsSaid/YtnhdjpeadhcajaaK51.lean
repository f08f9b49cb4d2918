/- Merged texts: Layer 11, PolicyHolds: the walk. -/
import Derived.Test.YtnhdjpeadhcajaaK50
import Derived.Deep.CutBlock
import Derived.Deep.DeepCutAuto
namespace Go.Proofs.Ytnhdjpeadhcajaa
open Go.RowKit Go.Sep DqPure
set_option maxRecDepth 100000
def wtsL (L : List (Int × Int)) : List Int := L.map (·.2)
theorem ids_at {L : List (Int × Int)} {k : Nat} (h : k < L.length) : (idsL L).getD k 0 = (atL L k).1 ∧ (wtsL L).getD k 0 = (atL L k).2 := by
  unfold idsL wtsL atL
  simp [List.getD, h]
section
variable {w0 : World} {F : Sep.Own}
theorem row_cell {v : Value} {l : List Int} {r : Sep.Own} (hr : Row 3 1 v l.length (ints l) r) (hp : 0 < l.length) : ∃ b c, v = .slice (some ⟨b, 0, none⟩) l.length c ∧ ∀ (W : World) (q : Sep.Own), Owned w0 W (r ++ q) → ∀ k, k < l.length → W.cell? ⟨b, k, none⟩ = some (.int .i64 (l.getD k 0)) := by
  rcases hr.2 with ⟨-, h0, -⟩ | ⟨g, cap, cur, rfl, rfl, h1, h2, h3, h4⟩
  · omega
  · refine ⟨g, cap, rfl, fun W q hO k hk => ?_⟩
    refine (Owned.cell hO k).trans ?_
    have h5 := ints_get l k hk
    have h6 : (ints l)[k]? = some (.int .i64 (l.getD k 0)) := by
      unfold ints
      simp [List.getD, hk]
    rw [← h4, List.getElem?_take, if_pos (by omega)] at h6
    simpa using h6
theorem phol_out (cap seed : Int) (v : Value) (len : Nat) (f : Nat → Nat → Int) (hv : ReadsR 4 w0 v len f) (h1 : 200 < len ∨ (len ≤ 200 ∧ cap < 0) ∨ (len ≤ 200 ∧ 0 ≤ cap ∧ 1024 < cap)) :
    Calls Try.prog 3 #[.int .i64 cap, .int .i64 seed, v] w0 fun e w' => e = .returned (.bool true) ∧ Below w0.heap.size w0 w' := by
  obtain ⟨hl, -, A, c, rfl, -⟩ := hv
  have cs := small_calls w0
  rcases h1 with h1 | ⟨h1, h2⟩ | ⟨h1, h2, h3⟩
  · go_enter Try.func3, Try.ntmps3
    go_wp2_with fail
    go_at_call 9
    refine (cs).mono ?_
    rintro e w1 ⟨rfl, hb⟩
    go_wp2_with fail
    go_ret
    exact ⟨rfl, hb⟩
  · go_enter Try.func3, Try.ntmps3
    go_wp2_with fail
    go_at_call 9
    refine (cs).mono ?_
    rintro e w1 ⟨rfl, hb⟩
    go_wp2_with fail
    go_ret
    exact ⟨rfl, hb⟩
  · go_enter Try.func3, Try.ntmps3
    go_wp2_with fail
    go_at_call 9
    refine (cs).mono ?_
    rintro e w1 ⟨rfl, hb⟩
    go_wp2_with fail
    go_ret
    exact ⟨rfl, hb⟩
theorem Stands.front {g k : Nat} {P : PSt} {W : World} {A B G : Sep.Own} (h : Stands w0 (A ++ (B ++ G)) g k P W) : ∃ q : Sep.Own, Owned w0 W (B ++ q) := by
  obtain ⟨r, -, hO⟩ := h
  exact ⟨_, hO.perm (perm3 r A B G)⟩
theorem has_callsB (v : Value) (l : List Int) (x : Int) (w : World) (hv : Reads w v l) :
    Calls Try.prog 11 #[v, .int .i64 x] w fun e w' => e = .returned (.bool (decide (x ∈ l))) ∧ Below w.heap.size w w' :=
  (has_calls v l x w hv).mono (fun e w' ⟨he, hw⟩ => ⟨he, by rw [hw]; exact Below.refl _ _⟩)
/-- what the first nodes weigh -/
def psum (L : List (Int × Int)) : Nat → Int
  | 0 => 0
  | k + 1 => psum L k + (atL L k).2
theorem psum_take (L : List (Int × Int)) : ∀ k, k ≤ L.length → psum L k = sumW (L.take k)
  | 0, _ => rfl
  | k + 1, hk => by
    have ih := psum_take L k (by omega)
    have e : L.take (k + 1) = L.take k ++ [atL L k] := by
      rw [List.take_add_one, List.getElem?_eq_getElem (by omega)]
      unfold atL
      rw [List.getD_eq_getElem?_getD, List.getElem?_eq_getElem (by omega)]
      rfl
    rw [psum, e, sumW_append, ih]
    show _ = _ + ((atL L k).2 + 0)
    omega
theorem psum_all (L : List (Int × Int)) : psum L L.length = sumW L := by
  rw [psum_take _ _ (Nat.le_refl _), List.take_length]
theorem sumW_pos : ∀ l : List (Int × Int), (∀ p ∈ l, 0 ≤ p.2) → 0 ≤ sumW l
  | [], _ => Int.le_refl 0
  | x :: l, h => by
    have h1 := h x List.mem_cons_self
    have h2 := sumW_pos l (fun p hp => h p (List.mem_cons_of_mem _ hp))
    show 0 ≤ x.2 + sumW l
    omega
theorem psum_in {L : List (Int × Int)} (h : ∀ p ∈ L, 0 ≤ p.2) (k : Nat) (hk : k ≤ L.length) : 0 ≤ psum L k ∧ psum L k ≤ sumW L := by
  rw [psum_take _ _ hk]
  have h1 := sumW_pos (L.take k) (fun p hp => h p (List.mem_of_mem_take hp))
  have h2 := sumW_pos (L.drop k) (fun p hp => h p (List.mem_of_mem_drop hp))
  have h3 := sumW_append (L.take k) (L.drop k)
  rw [List.take_append_drop] at h3
  omega
theorem rows_sub (P : PSt) (k : Nat) (hk : k < 3) (x : Int) (hx : x ∈ P.row (k : Int)) : x ∈ idsL P.all := by
  have e : idsL P.all = idsL P.a ++ (idsL P.b ++ idsL P.c) := by
    unfold PSt.all idsL
    rw [List.map_append, List.map_append]
  rw [e, List.mem_append, List.mem_append]
  match k, hk, hx with
  | 0, _, hx => exact .inl hx
  | 1, _, hx => exact .inr (.inl hx)
  | 2, _, hx => exact .inr (.inr hx)
theorem rows_mono (P : PSt) (k : Nat) (hk : k ≤ 3) : rowsN_ P k ≤ P.len := by
  rw [← rows_len]
  match k, hk with
  | 0, _ => exact Nat.zero_le _
  | 1, _ => show _ ≤ rowsN_ P 1 + _ + _; omega
  | 2, _ => show _ ≤ rowsN_ P 2 + _; omega
  | 3, _ => exact Nat.le_refl _
/-- what stands ahead of each event -/
def HolRel (w0 : World) (F : Sep.Own) (g : Nat) (cap : Int) (i : Nat) (vI vH : Value) (w : World) : Prop :=
  ∃ (P : PSt) (L : List (Int × Int)) (rI rH : Sep.Own), Row 3 1 vI (idsL L).length (ints (idsL L)) rI ∧ Row 3 1 vH (wtsL L).length (ints (wtsL L)) rH ∧ L.Perm P.all ∧ GoodP P ∧ P.cap = cap ∧ P.wt ≤ P.cap ∧ L.length ≤ i ∧ Stands w0 (rI ++ (rH ++ F)) g (2 * i) P w
theorem ids_len (L : List (Int × Int)) : (idsL L).length = L.length := List.length_map ..
theorem wts_len (L : List (Int × Int)) : (wtsL L).length = L.length := List.length_map ..
end
end Go.Proofs.Ytnhdjpeadhcajaa
