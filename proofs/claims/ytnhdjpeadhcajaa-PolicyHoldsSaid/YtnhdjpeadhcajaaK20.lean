/- Merged texts: Layer 7: an element is taken out of its row, or put at a row's end: the walks. Layer 7: the rows and their index: the state in memory; what only reads it. -/
import Derived.Test.YtnhdjpeadhcajaaK17
import Derived.StillTailTactics
import Derived.Deep.DeepCutAuto
import Derived.Deep.RegionWith
import Derived.WalkKit
import Derived.Lib.Hide
import Derived.Lib.QuietBelow
import Derived.Test.YtnhdjpeadhcajaaK19
namespace Go.Proofs.Ytnhdjpeadhcajaa
open Go.RowKit Go.Sep DqPure
set_option maxRecDepth 100000
section
variable {X : Own} {m : Nat} {L : Nat → Nat} {B : Nat → Prop} {nx pv li : Nat → Nat} {id wt : Nat → Int} {LW : Nat → Int} {LN : Nat → Nat} {r F : Own} {w0 w : World}
theorem Nodes.elc (h : Nodes X m L B nx pv li id wt LW LN r) (hO : Owned w0 w (r ++ F)) {b : Nat} (hb : B b) :
    w.cell? ⟨b, 0, none⟩ = some (.int .i64 (id b)) ∧ w.cell? ⟨b, 1, none⟩ = some (.int .i64 (wt b)) ∧ w.cell? ⟨b, 2, none⟩ = some (.pointer (some ⟨li b, 0, none⟩)) ∧ w.cell? ⟨b, 3, none⟩ = some (.pointer (some ⟨pv b, 0, none⟩)) ∧ w.cell? ⟨b, 4, none⟩ = some (.pointer (some ⟨nx b, 0, none⟩)) ∧ ∀ i, w.frozen? ⟨b, i, none⟩ = false := by
  have e := h.el b hb
  exact ⟨(hO.look_cell e 0).trans rfl, (hO.look_cell e 1).trans rfl, (hO.look_cell e 2).trans rfl, (hO.look_cell e 3).trans rfl, (hO.look_cell e 4).trans rfl, fun i => hO.look_free e i⟩
theorem Nodes.lsc (h : Nodes X m L B nx pv li id wt LW LN r) (hO : Owned w0 w (r ++ F)) {k : Nat} (hk : k < m) :
    w.cell? ⟨L k, 0, none⟩ = some (.int .i64 0) ∧ w.cell? ⟨L k, 3, none⟩ = some (.pointer (some ⟨pv (L k), 0, none⟩)) ∧ w.cell? ⟨L k, 4, none⟩ = some (.pointer (some ⟨nx (L k), 0, none⟩)) ∧ w.cell? ⟨L k, 5, none⟩ = some (.int .i64 (k : Int)) ∧ w.cell? ⟨L k, 6, none⟩ = some (.int .i64 (LW k)) ∧ w.cell? ⟨L k, 7, none⟩ = some (.int .i64 (LN k : Int)) ∧ ∀ i, w.frozen? ⟨L k, i, none⟩ = false := by
  have e := h.lst k hk
  exact ⟨(hO.look_cell e 0).trans rfl, (hO.look_cell e 3).trans rfl, (hO.look_cell e 4).trans rfl, (hO.look_cell e 5).trans rfl, (hO.look_cell e 6).trans rfl, (hO.look_cell e 7).trans rfl, fun i => hO.look_free e i⟩
theorem Nodes.nxw (h : Nodes X m L B nx pv li id wt LW LN r) (hO : Owned w0 w (r ++ F)) {c : Nat} (hc : isNode m L B c) (v : Nat) :
    (∃ u, w.cell? ⟨c, 4, none⟩ = some (.pointer u)) ∧ w.frozen? ⟨c, 4, none⟩ = false ∧ ∃ r', Nodes X m L B (upd nx c v) pv li id wt LW LN r' ∧ Owned w0 (w.setCell ⟨c, 4, none⟩ (.pointer (some ⟨v, 0, none⟩))) (r' ++ F) := by
  obtain ⟨cs, t, h1, h2, h3, h4⟩ := h.setNx hc v
  exact ⟨⟨_, (hO.look_cell h1 4).trans h3⟩, hO.look_free h1 4, _, h4, hO.set_at h1 4 _⟩
theorem Nodes.pvw (h : Nodes X m L B nx pv li id wt LW LN r) (hO : Owned w0 w (r ++ F)) {c : Nat} (hc : isNode m L B c) (v : Nat) :
    (∃ u, w.cell? ⟨c, 3, none⟩ = some (.pointer u)) ∧ w.frozen? ⟨c, 3, none⟩ = false ∧ ∃ r', Nodes X m L B nx (upd pv c v) li id wt LW LN r' ∧ Owned w0 (w.setCell ⟨c, 3, none⟩ (.pointer (some ⟨v, 0, none⟩))) (r' ++ F) := by
  obtain ⟨cs, t, h1, h2, h3, h4⟩ := h.setPv hc v
  exact ⟨⟨_, (hO.look_cell h1 3).trans h2⟩, hO.look_free h1 3, _, h4, hO.set_at h1 3 _⟩
theorem Nodes.lww (h : Nodes X m L B nx pv li id wt LW LN r) (hO : Owned w0 w (r ++ F)) {k : Nat} (hk : k < m) (x : Int) :
    ∃ r', Nodes X m L B nx pv li id wt (updI LW k x) LN r' ∧ Owned w0 (w.setCell ⟨L k, 6, none⟩ (.int .i64 x)) (r' ++ F) := by
  have h1 := h.setL hk x (LN k)
  have e : upd LN k (LN k) = LN := by funext j; unfold upd; by_cases e : j = k; (rw [if_pos e, e]); (rw [if_neg e])
  rw [e] at h1
  exact ⟨_, h1, hO.set_at (h.lst k hk) 6 _⟩
theorem Nodes.lnw (h : Nodes X m L B nx pv li id wt LW LN r) (hO : Owned w0 w (r ++ F)) {k : Nat} (hk : k < m) (x : Nat) :
    ∃ r', Nodes X m L B nx pv li id wt LW (upd LN k x) r' ∧ Owned w0 (w.setCell ⟨L k, 7, none⟩ (.int .i64 (x : Int))) (r' ++ F) := by
  have h1 := h.setL hk (LW k) x
  have e : updI LW k (LW k) = LW := by funext j; unfold updI; by_cases e : j = k; (rw [if_pos e, e]); (rw [if_neg e])
  rw [e] at h1
  exact ⟨_, h1, hO.set_at (h.lst k hk) 7 _⟩
theorem Nodes.liw (h : Nodes X m L B nx pv li id wt LW LN r) (hO : Owned w0 w (r ++ F)) {b : Nat} (hb : B b) (v : Nat) :
    ∃ r', Nodes X m L B nx pv (upd li b v) id wt LW LN r' ∧ Owned w0 (w.setCell ⟨b, 2, none⟩ (.pointer (some ⟨v, 0, none⟩))) (r' ++ F) :=
  ⟨_, h.setLi hb v, hO.set_at (h.el b hb) 2 _⟩
theorem Nodes.wtw (h : Nodes X m L B nx pv li id wt LW LN r) (hO : Owned w0 w (r ++ F)) {b : Nat} (hb : B b) (v : Int) :
    ∃ r', Nodes X m L B nx pv li id (updI wt b v) LW LN r' ∧ Owned w0 (w.setCell ⟨b, 1, none⟩ (.int .i64 v)) (r' ++ F) :=
  ⟨_, h.setWt hb v, hO.set_at (h.el b hb) 1 _⟩
set_option maxHeartbeats 3200000 in
theorem unlink_calls {b k : Nat} (hN : Nodes X m L B nx pv li id wt LW LN r) (hb : B b) (hk : k < m) (hli : li b = L k) (hp : isNode m L B (pv b)) (hq : isNode m L B (nx b))
    (hw1 : 0 ≤ wt b) (hw2 : wt b ≤ 2147483648) (hW1 : 0 ≤ LW k) (hW2 : LW k ≤ 4611686018427387904) (hn1 : 1 ≤ LN k) (hn2 : LN k ≤ 1000000) (h : Owned w0 w (r ++ F)) :
    Calls Try.prog 76 #[.pointer (some ⟨b, 0, none⟩)] w fun e w' => e = .returned (.tuple #[]) ∧
      ∃ r', Nodes X m L B (upd nx (pv b) (nx b)) (upd pv (nx b) (pv b)) li id wt (updI LW k (LW k - wt b)) (upd LN k (LN k - 1)) r' ∧ Owned w0 w' (r' ++ F) := by
  obtain ⟨_, _, c2, c3, c4, _⟩ := hN.elc h hb
  obtain ⟨⟨u1, e1⟩, f1, r1, hN1, hO1⟩ := hN.nxw h hp (nx b)
  obtain ⟨⟨u2, e2⟩, f2, _⟩ := hN.pvw h hq (pv b)
  obtain ⟨_, _, r2, hN2, hO2⟩ := hN1.pvw hO1 hq (pv b)
  have HN2 := Lib.hid hN2
  have HO2 := Lib.hid hO2
  have HB := Lib.hid hb
  have HLI := Lib.hid hli
  clear hN1 hO1 hN2 hO2 hN hp hq h hb hli
  obtain ⟨p, hpp⟩ : ∃ p, pv b = p := ⟨_, rfl⟩
  obtain ⟨q, hqq⟩ : ∃ q, nx b = q := ⟨_, rfl⟩
  rw [hpp] at c3 e1 f1 HN2 HO2 ⊢
  rw [hqq] at c4 e2 f2 HN2 HO2 ⊢
  clear hpp hqq
  go_enter Try.func76, Try.ntmps76
  go_wp2_with fail
  go_still_tail 16, (by kernel_rfl)
  go_wp2_with fail
  have HO3 := Lib.hid HO2.out.drew
  generalize ((w.setCell ⟨p, 4, none⟩ (.pointer (some ⟨q, 0, none⟩))).setCell ⟨q, 3, none⟩ (.pointer (some ⟨p, 0, none⟩))).drew = w2 at *
  clear c2 c3 c4 e1 e2 f1 f2 HO2
  obtain ⟨-, d1, d2, -, -, -⟩ := HN2.out.elc HO3.out HB.out
  rw [HLI.out] at d2
  obtain ⟨-, -, -, -, d6, d7, df⟩ := HN2.out.lsc HO3.out hk
  obtain ⟨r3, hN3, hO4⟩ := HN2.out.lww HO3.out hk (LW k - wt b)
  obtain ⟨r4, hN4, hO5⟩ := hN3.lnw hO4.drew hk (LN k - 1)
  rw [show ((LN k - 1 : Nat) : Int) = (LN k : Int) - 1 by omega] at hO5
  have HN4 := Lib.hid hN4
  have HO5 := Lib.hid hO5
  have df6 := df 6
  have df7 := df 7
  have hwr : IntKind.i64.wrap (LW k - wt b) = LW k - wt b := by rw [IntKind.wrap_i64]; omega
  clear hN3 hO4 hN4 hO5 HN2 HO3 df
  go_wp2_with fail
  go_still_tail 12, (by kernel_rfl)
  go_wp2_with fail
  go_end0
  exact ⟨rfl, r4, HN4.out, HO5.out⟩
set_option maxHeartbeats 800000 in
theorem push_calls {b k p n : Nat} {i x : Int} {vl vp vn : Option Addr} (hraw : lookB r b = some (.cells #[.int .i64 i, .int .i64 x, .pointer vl, .pointer vp, .pointer vn] 88 (0, 0)))
    (hlk : lookB r (L k) = some (listO k (LW k) (LN k) p n)) (hN : Nodes X m L B nx pv li id wt LW LN (setBk r b (elemO i x (L k) p (L k)))) (hb : B b) (hk : k < m) (hp : isNode m L B p)
    (hw1 : 0 ≤ wt b) (hw2 : wt b ≤ 2147483648) (hW1 : 0 ≤ LW k) (hW2 : LW k ≤ 4611686018427387904) (hn2 : LN k ≤ 1000000) (h : Owned w0 w (r ++ F)) :
    Calls Try.prog 54 #[.pointer (some ⟨L k, 0, none⟩), .pointer (some ⟨b, 0, none⟩)] w fun e w' => e = .returned (.tuple #[]) ∧
      ∃ r', Nodes X m L B (upd nx p b) (upd pv (L k) b) li id wt (updI LW k (LW k + wt b)) (upd LN k (LN k + 1)) r' ∧ Owned w0 w' (r' ++ F) := by
  have c3 : w.cell? ⟨L k, 3, none⟩ = some (.pointer (some ⟨p, 0, none⟩)) := (h.look_cell hlk 3).trans rfl
  have hln : isNode m L B (L k) := Or.inr ⟨k, hk, rfl⟩
  have b2 : w.cell? ⟨b, 2, none⟩ = some (.pointer vl) := (h.look_cell hraw 2).trans rfl
  have b3 : w.cell? ⟨b, 3, none⟩ = some (.pointer vp) := (h.look_cell hraw 3).trans rfl
  have b4 : w.cell? ⟨b, 4, none⟩ = some (.pointer vn) := (h.look_cell hraw 4).trans rfl
  have bf2 := h.look_free hraw 2
  have bf3 := h.look_free hraw 3
  have bf4 := h.look_free hraw 4
  have hO1 := h.set_at hraw 3 (.pointer (some ⟨p, 0, none⟩))
  have hO2 := hO1.set_at (look_setBk_same _ hraw) 4 (.pointer (some ⟨L k, 0, none⟩))
  rw [setBk_twice] at hO2
  have hO3 := hO2.set_at (look_setBk_same _ hraw) 2 (.pointer (some ⟨L k, 0, none⟩))
  rw [setBk_twice] at hO3
  obtain ⟨r3, hr3⟩ : ∃ r3, setBk r b (elemO i x (L k) p (L k)) = r3 := ⟨_, rfl⟩
  rw [hr3] at hN
  have hO3 : Owned w0 (((w.setCell ⟨b, 3, none⟩ (.pointer (some ⟨p, 0, none⟩))).setCell ⟨b, 4, none⟩ (.pointer (some ⟨L k, 0, none⟩))).setCell ⟨b, 2, none⟩ (.pointer (some ⟨L k, 0, none⟩))) (r3 ++ F) := by
    rw [← hr3]
    exact hO3
  clear hO1 hO2 hr3 hraw hlk h
  have HN3 := Lib.hid hN
  have HO3 := Lib.hid hO3.drew
  have HB := Lib.hid hb
  have HP := Lib.hid hp
  have HLN := Lib.hid hln
  clear hN hO3 hp hb hln
  obtain ⟨l, hl⟩ : ∃ l, L k = l := ⟨_, rfl⟩
  have HL := Lib.hid hl
  rw [hl] at c3 HO3 HLN ⊢
  clear hl
  go_enter Try.func54, Try.ntmps54
  go_upto_region 1 with (fail)
  go_cut [] (fun wc => Hid (∃ r3, Nodes X m L B nx pv li id wt LW LN r3 ∧ Owned w0 wc (r3 ++ F)))
  case first =>
    go_region_with (fail)
    all_goals (go_wp2_with fail)
    all_goals go_meet
    case rel => exact ⟨r3, HN3.out, HO3.out⟩
  case rest =>
    clear HN3 HO3 b2 b3 b4 bf2 bf3 bf4 c3
    obtain ⟨r3, hN3, hO3⟩ := hcut.out
    clear hcut
    obtain ⟨⟨u1, e1⟩, f1, r4, hN4, hO4⟩ := hN3.nxw hO3 HP.out b
    obtain ⟨⟨u2, e2⟩, f2, _⟩ := hN3.pvw hO3 HLN.out b
    obtain ⟨-, -, r5, hN5, hO5⟩ := hN4.pvw hO4 HLN.out b
    have HN5 := Lib.hid hN5
    have HO5 := Lib.hid hO5
    have HB5 := HB
    clear hN3 hO3 hN4 hO4 hN5 hO5 HP HLN HB
    go_wp2_with fail
    generalize (wc.setCell ⟨p, 4, none⟩ (.pointer (some ⟨b, 0, none⟩))).setCell ⟨l, 3, none⟩ (.pointer (some ⟨b, 0, none⟩)) = w2 at *
    clear e1 e2 f1 f2
    obtain ⟨-, d1, -, -, -, -⟩ := HN5.out.elc HO5.out HB5.out
    obtain ⟨-, -, -, -, d6, d7, df⟩ := HN5.out.lsc HO5.out hk
    have HO6 := HO5
    clear HO5
    obtain ⟨r6, hN6, hO7⟩ := HN5.out.lww HO6.out hk (LW k + wt b)
    obtain ⟨r7, hN7, hO8⟩ := hN6.lnw hO7 hk (LN k + 1)
    rw [show ((LN k + 1 : Nat) : Int) = (LN k : Int) + 1 by omega] at hO8
    rw [HL.out] at d6 d7 df hO8
    have HN7 := Lib.hid hN7
    have HO8 := Lib.hid hO8
    have df6 := df 6
    have df7 := df 7
    have hwr : IntKind.i64.wrap (LW k + wt b) = LW k + wt b := by rw [IntKind.wrap_i64]; omega
    clear hN6 hO7 hN7 hO8 HN5 HO6 df
    go_still_tail 9, (by kernel_rfl)
    go_wp2_with fail
    go_end0
    exact ⟨rfl, r7, HN7.out, HO8.out.drew⟩
end
end Go.Proofs.Ytnhdjpeadhcajaa
namespace Go.Proofs.Ytnhdjpeadhcajaa
open Go.RowKit Go.Sep DqPure
def LoO (v : Value) (bm : Nat) : Obj := .cells #[v, .map (some bm)] 84 (0, 0)
structure DqIn (bx m n : Nat) (v : Value) (bm : Nat) (q : Own) (L : Nat → Nat) (S : Nat → List Nat) (nx pv li : Nat → Nat) (id wt : Nat → Int) (LW : Nat → Int) (LN : Nat → Nat) (f : Int → Nat) (o : Obj) (r : Own) : Prop where
  l : DqL ((bm, o) :: (bx, LoO v bm) :: q) m L S nx pv li id wt LW LN r
  xn : (bm :: bx :: q.map (·.1)).Nodup
  row : Row 85 1 v m ((List.range m).map (fun k => nptr (L k))) q
  m16 : m ≤ 16
  map : OfMap n f o
  fm : ∀ k, k < m → ∀ b ∈ S k, f (id b) = b + 1
  fc : ∀ x, f x ≠ 0 → ∃ k b, k < m ∧ b ∈ S k ∧ f x = b + 1 ∧ id b = x
  tot : totl S m ≤ n
def DqAt (bx m n : Nat) (st : Nat → List (Int × Int)) (r : Own) : Prop :=
  ∃ v bm q L S nx pv li id wt LW LN f o, DqIn bx m n v bm q L S nx pv li id wt LW LN f o r ∧ ∀ k, k < m → st k = (S k).map (fun b => (id b, wt b))
section
variable {bx m n bm : Nat} {v : Value} {q r F : Own} {L : Nat → Nat} {S : Nat → List Nat} {nx pv li : Nat → Nat} {id wt LW : Nat → Int} {LN : Nat → Nat} {f : Int → Nat} {o : Obj} {w0 w : World}
theorem DqIn.cx (h : DqIn bx m n v bm q L S nx pv li id wt LW LN f o r) (hO : Owned w0 w (r ++ F)) : w.cell? ⟨bx, 0, none⟩ = some v ∧ w.cell? ⟨bx, 1, none⟩ = some (.map (some bm)) := by
  have e := (h.l.nodes.oth (bx, LoO v bm) (by simp)).1
  exact ⟨(hO.look_cell e 0).trans rfl, (hO.look_cell e 1).trans rfl⟩
theorem DqIn.om (h : DqIn bx m n v bm q L S nx pv li id wt LW LN f o r) : lookB r bm = some o := (h.l.nodes.oth (bm, o) (by simp)).1
theorem DqIn.rows (h : DqIn bx m n v bm q L S nx pv li id wt LW LN f o r) : ∃ A c, v = .slice A m c ∧ (0 < m → ∃ b, A = some ⟨b, 0, none⟩ ∧ ∀ w, Owned w0 w (r ++ F) → ∀ k, k < m → w.cell? ⟨b, k, none⟩ = some (nptr (L k))) := by
  obtain ⟨hl, hc⟩ := h.row
  have hq := h.l.nodes.oth
  rcases hc with ⟨rfl, rfl, rfl⟩ | ⟨b, cap, cur, rfl, rfl, h1, h2, h3, h4⟩
  · exact ⟨none, 0, rfl, fun h => absurd h (by omega)⟩
  · refine ⟨some ⟨b, 0, none⟩, cap, rfl, fun _ => ⟨b, rfl, fun W hO i hi => ?_⟩⟩
    have e := (hq (b, .cells cur 85 (0, 0)) (by simp)).1
    refine (hO.look_cell e i).trans ?_
    have h5 : cur[i]? = (cur.toList.take (m * 1))[i]? := by rw [List.getElem?_take, if_pos (by omega)]; simp
    rw [h5, h4]
    simp [hi]
set_option maxHeartbeats 800000 in
theorem dq_row_none {k : Int} (h : DqIn bx m n v bm q L S nx pv li id wt LW LN f o r) (hk : k < 0 ∨ (m : Int) ≤ k) (hO : Owned w0 w (r ++ F)) :
    Calls Try.prog 52 #[.pointer (some ⟨bx, 0, none⟩), .int .i64 k] w fun e w' => e = .returned (.pointer none) ∧ w' = w := by
  obtain ⟨c0, -⟩ := h.cx hO
  obtain ⟨A, c, rfl, -⟩ := h.rows (w0 := w0) (F := F)
  clear h hO
  by_cases hk0 : k < 0
  · have hd : decide (k < 0) = true := by simpa using hk0
    go_enter Try.func52, Try.ntmps52
    go_wp2_with fail
    go_ret
    exact ⟨rfl, rfl⟩
  · have hd : decide (k < 0) = false := by simpa using hk0
    have hd2 : decide ((m : Int) ≤ k) = true := by simp; omega
    go_enter Try.func52, Try.ntmps52
    go_wp2_with fail
    go_ret
    exact ⟨rfl, rfl⟩
set_option maxHeartbeats 800000 in
theorem dq_row_some {k : Nat} (h : DqIn bx m n v bm q L S nx pv li id wt LW LN f o r) (hk : k < m) (hO : Owned w0 w (r ++ F)) :
    Calls Try.prog 52 #[.pointer (some ⟨bx, 0, none⟩), .int .i64 (k : Int)] w fun e w' => e = .returned (.pointer (some ⟨L k, 0, none⟩)) ∧ w' = w := by
  obtain ⟨c0, -⟩ := h.cx hO
  obtain ⟨A, c, rfl, hA⟩ := h.rows (w0 := w0) (F := F)
  obtain ⟨b, rfl, hc⟩ := hA (by omega)
  have cx := hc w hO k hk
  unfold nptr at cx
  have hd : decide ((k : Int) < 0) = false := by simp
  have hd2 : decide ((m : Int) ≤ (k : Int)) = false := by simp; omega
  clear h hO hA hc
  go_enter Try.func52, Try.ntmps52
  go_wp2_with fail
  go_ret
  exact ⟨rfl, rfl⟩
set_option maxHeartbeats 800000 in
theorem dq_fine (x : Int) : Calls Try.prog 53 #[.int .i64 x] w fun e w' => e = .returned (.bool (decide (0 ≤ x) && decide (x ≤ 2147483648))) ∧ w' = w := by
  by_cases h0 : 0 ≤ x
  · have hd : decide (0 ≤ x) = true := by simpa using h0
    go_enter Try.func53, Try.ntmps53
    go_wp2_with fail
    go_ret
    exact ⟨by simp [h0], rfl⟩
  · have hd : decide (0 ≤ x) = false := by simpa using h0
    go_enter Try.func53, Try.ntmps53
    go_wp2_with fail
    go_ret
    exact ⟨by simp, rfl⟩
end
end Go.Proofs.Ytnhdjpeadhcajaa
