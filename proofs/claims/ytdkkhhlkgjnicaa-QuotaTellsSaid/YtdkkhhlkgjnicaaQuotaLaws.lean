/- The statements of layer 9: the walks (what is told, and the ends). -/
import Derived.Test.YtdkkhhlkgjnicaaQuotaRef2
namespace Go.Proofs.Ytdkkhhlkgjnicaa
open Go.RowKit Go.Sep
/-- a quota's cells in a block -/
def QAt (g : Nat) (a b p : Int) (w : World) : Prop := g < w.heap.size ∧ w.cell? ⟨g, 0, none⟩ = some (.int .i64 a) ∧ w.cell? ⟨g, 1, none⟩ = some (.int .i64 b) ∧ w.cell? ⟨g, 2, none⟩ = some (.int .i64 p)
theorem qat_below {g : Nat} {a b p : Int} {w w' : World} (hb : Below w.heap.size w w') (h : QAt g a b p w) : QAt g a b p w' :=
  ⟨Nat.lt_of_lt_of_le h.1 hb.size, (hb.cell (p := ⟨g, 0, none⟩) h.1).trans h.2.1, (hb.cell (p := ⟨g, 1, none⟩) h.1).trans h.2.2.1, (hb.cell (p := ⟨g, 2, none⟩) h.1).trans h.2.2.2⟩
theorem qat_of {w0 w : World} {g : Nat} {a b p : Int} {l : Own} {t : TypeId} (h : Owned w0 w ((g, .cells #[.int .i64 a, .int .i64 b, .int .i64 p] t (0, 0)) :: l)) : QAt g a b p w :=
  ⟨Owned.lt h, Owned.cell h 0, Owned.cell h 1, Owned.cell h 2⟩
set_option maxHeartbeats 6400000 in
theorem tells_walk (cap a b p by_ : Int) : TellsB 3 #[.int .i64 cap, .agg (quotaC a b p), .int .i64 by_] (.bool true) := by
  intro w0
  have hO := ((Owned.nil w0).alloc (.cells (quotaC a b p) 23))
  have hb0 : Below w0.heap.size w0 (w0.alloc (.cells (quotaC a b p) 23)) := hO.below
  have q0 : QAt w0.heap.size a b p (w0.alloc (.cells (quotaC a b p) 23)) := qat_of hO
  clear hO
  have c1 := fun w => rshift_calls a b p 0 w
  have c2 := fun w => of_calls cap w
  have c3 := fun w => rof_calls cap w
  have c4 := fun w => shift_calls a b p by_ w
  have c5 := fun w => rshift_calls a b p by_ w
  have c6 := fun w => right_calls a b p w
  have c7 := fun w => main_calls a b p w
  have hr : rightB a b p = true → (0 ≤ a ∧ a ≤ 4611686018427387903) ∧ 0 ≤ b ∧ b ≤ a := by
    intro h
    unfold rightB at h
    simp only [Bool.and_eq_true, beq_iff_eq] at h
    have h1 := ofC_in a
    have h2 := shW_in a b 0
    have h3 := lohi h1.1
    omega
  simp only [shQ, ofQ] at c1 c2 c3 c4 c5
  have e1 : (ofC a == a) = (a == ofC a) := by rw [Bool.beq_comm]
  have e2 : (shW a b 0 == b) = (b == shW a b 0) := by rw [Bool.beq_comm]
  have e3 : (pr (ofC a) (shW a b 0) == p) = (p == pr (ofC a) (shW a b 0)) := by rw [Bool.beq_comm]
  have hR : rightB a b p = ((a == ofC a) && ((b == shW a b 0) && (p == pr (ofC a) (shW a b 0)))) := rfl
  have hM : mainN a b p = if rightB a b p = true then a - b else 0 := rfl
  generalize mainN a b p = M at *
  generalize pr (ofC cap) (ofW cap) = z3 at *
  generalize ofW cap = z2 at *
  generalize ofC cap = z1 at *
  generalize pr (ofC a) (shW a b by_) = y3 at *
  generalize shW a b by_ = y2 at *
  generalize pr (ofC a) (shW a b 0) = x3 at *
  generalize shW a b 0 = x2 at *
  generalize ofC a = x1 at *
  generalize rightB a b p = R at *
  generalize (a == x1) = r1 at *
  generalize (b == x2) = r2 at *
  generalize (p == x3) = r3 at *
  unfold quotaC at *
  have hcases : (R = true ∧ M = a - b ∧ r1 = true ∧ r2 = true ∧ r3 = true) ∨ (R = false ∧ M = 0 ∧ (r1 = false ∨ r1 = true ∧ r2 = false ∨ r1 = true ∧ r2 = true ∧ r3 = false)) := by
    cases r1 <;> cases r2 <;> cases r3 <;> subst hR <;> simp_all
  clear hR hM
  rcases hcases with ⟨rfl, rfl, rfl, rfl, rfl⟩ | ⟨rfl, rfl, rfl | ⟨rfl, rfl⟩ | ⟨rfl, rfl, rfl⟩⟩
  all_goals
    try obtain ⟨⟨k1, k2⟩, k3, k4⟩ := hr rfl
    clear hr
    go_enter Try.func3, Try.ntmps3
    go_wp2_with fail
    go_at_call 7
    refine (small_calls _).mono ?_
    rintro e w1 ⟨rfl, hb1⟩
    have q1 := qat_below hb1 q0
    have hbb := hb0.trans (hb1.mono hb0.size)
    clear q0 hb0 hb1
    have q1' := q1
    obtain ⟨q11, q12, q13, q14⟩ := q1
    go_wp2_with fail
    go_region_held3 (fun w' => w'.cell? ⟨w0.heap.size, 0, none⟩ = some (.int .i64 a) ∧ w'.cell? ⟨w0.heap.size, 1, none⟩ = some (.int .i64 b) ∧ w'.cell? ⟨w0.heap.size, 2, none⟩ = some (.int .i64 p)) (first | exact ⟨q12, q13, q14⟩ | exact q4.2)
      (first | (go_at_call 8; (with_reducible refine (c1 _).mono ?_); rintro e w4 ⟨rfl, hb4⟩; have q4 := qat_below hb4 q1'))
    have hbc := hbb.drew.trans (hb4.mono hbb.size)
    clear q11 q12 q13 q14 hb4 hbb q1'
    have q4' := q4
    obtain ⟨q41, q42, q43, q44⟩ := q4
    go_wp2_with fail
    go_region_held3 (fun w' => w'.cell? ⟨w0.heap.size, 0, none⟩ = some (.int .i64 a) ∧ w'.cell? ⟨w0.heap.size, 1, none⟩ = some (.int .i64 b) ∧ w'.cell? ⟨w0.heap.size, 2, none⟩ = some (.int .i64 p)) (first | exact ⟨q42, q43, q44⟩ | exact q5.2 | exact q6.2 | exact q7.2 | exact q8.2 | exact q9.2 | exact q10.2)
      (first
        | (go_at_call 9; (with_reducible refine (c2 _).mono ?_); rintro e w5 ⟨rfl, hb5⟩; have q5 := qat_below hb5 q4')
        | (go_at_call 10; (with_reducible refine (c3 _).mono ?_); rintro e w6 ⟨rfl, hb6⟩; have q6 := qat_below hb6 q5)
        | (go_at_call 11; (with_reducible refine (c4 _).mono ?_); rintro e w7 ⟨rfl, hb7⟩; have q7 := qat_below hb7 q6)
        | (go_at_call 8; (with_reducible refine (c5 _).mono ?_); rintro e w8 ⟨rfl, hb8⟩; have q8 := qat_below hb8 q7)
        | (go_at_call 12; (with_reducible refine (c6 _).mono ?_); rintro e w9 ⟨rfl, hb9⟩; have q9 := qat_below hb9 q8)
        | (go_at_call 13; (with_reducible refine (c7 _).mono ?_); rintro e w10 ⟨rfl, hb10⟩; have q10 := qat_below hb10 q9))
    go_wp2_with fail
    go_ret
    have m5 := hbc.drew.trans (hb5.mono hbc.size)
    have m6 := m5.trans (hb6.mono m5.size)
    have m7 := m6.trans (hb7.mono m6.size)
    have m8 := m7.trans (hb8.mono m7.size)
    have m9 := m8.trans (hb9.mono m8.size)
    exact ⟨rfl, m9.trans (hb10.mono m9.size)⟩
end Go.Proofs.Ytdkkhhlkgjnicaa
