/- Merged texts: Contracts of layer 9's functions: quotas. Contracts of layer 9's functions: what is right, and what is not the window's. Contracts of the document's layer 9: quotas. Contracts of the document's layer 9: shifts. Own memory as a map from blocks to what they hold. -/
import Derived.Test.YtnhdjpeadhcajaaK01
import Derived.Test.YtnhdjpeadhcajaaK03
import Derived.Deep.RegionHeld3
import Derived.Deep.QuietTactic
import Derived.BigQuiet
namespace Go.Proofs.Ytnhdjpeadhcajaa
open Go.RowKit Go.Sep
/-- a call that makes memory and tells -/
def TellsQ (f : Nat) (args : Array Value) (v : Value) : Prop := ∀ w, Calls Try.prog f args w fun e w' => e = .returned v ∧ Below w.heap.size w w'
def cl (n l h : Int) : Int := min (max n l) h
def lo (c : Int) : Int := if c = 0 then 0 else 1
def hi (c : Int) : Int := if c = 0 then 0 else c - c / 5
def pr (c w : Int) : Int := (c - w) - (c - w) / 5
theorem cl_in {n l h : Int} (hl : l ≤ h) : l ≤ cl n l h ∧ cl n l h ≤ h := by unfold cl; omega
theorem cl_id {n l h : Int} (h0 : l ≤ n) (h1 : n ≤ h) : cl n l h = n := by unfold cl; omega
theorem lohi {c : Int} (h0 : 0 ≤ c) : 0 ≤ lo c ∧ lo c ≤ hi c ∧ hi c ≤ c ∧ lo c ≤ 1 := by unfold lo hi; split <;> omega
/-- the cells of a quota -/
def quotaC (c w p : Int) : Array Value := #[.int .i64 c, .int .i64 w, .int .i64 p]
theorem ret_int {k : IntKind} {a b : Int} (h : a = b) : Ending.returned (.int k a) = .returned (.int k b) := by rw [h]
theorem clamp_calls (n l h : Int) : Tells 39 #[.int .i64 n, .int .i64 l, .int .i64 h] (.int .i64 (cl n l h)) := by
  intro w
  go_enter Try.func39, Try.ntmps39
  go_wp2
  all_goals
    go_ret
    exact ⟨ret_int (by unfold cl; omega), rfl⟩
theorem ends_calls (c : Int) (h0 : 0 ≤ c) (h1 : c ≤ 4611686018427387903) : Tells 40 #[.int .i64 c] (.tuple #[.int .i64 (lo c), .int .i64 (hi c)]) := by
  intro w
  by_cases hc : c = 0
  · subst hc
    go_enter Try.func40, Try.ntmps40
    go_wp2
    go_ret2
    exact ⟨rfl, rfl⟩
  · have hne : (c == 0) = false := by simpa using hc
    have e1 : lo c = 1 := by unfold lo; rw [if_neg hc]
    have e2 : hi c = c - c / 5 := by unfold hi; rw [if_neg hc]
    rw [e1, e2]
    clear e1 e2 hc
    go_enter Try.func40, Try.ntmps40
    go_wp2
    go_ret2
    exact ⟨rfl, rfl⟩
theorem und_quota : Try.prog.underlying 42 = some (.struct (Try.prog.fieldsOf 42)) := by kernel_rfl
theorem info_quota : (Try.prog.info? 42).map (·.size) = some 3 := by kernel_rfl
theorem quota_one (c w p : Int) : (quotaC c w p).all (·.oneCell') = true := by simp [quotaC, Value.oneCell']
theorem with_calls (c w : Int) (h0 : 0 ≤ w) (h1 : w ≤ c) (h2 : c ≤ 4611686018427387903) : TellsQ 41 #[.int .i64 c, .int .i64 w] (.agg (quotaC c w (pr c w))) := by
  intro w0
  have hO := (Owned.nil w0).alloc (.cells #[.int .i64 0, .int .i64 0, .int .i64 0] 42)
  have HO := Lib.hid hO
  clear hO
  go_enter Try.func41, Try.ntmps41
  go_wp2_with (refine store_whole rfl _ _ _ rfl w0.heap.size rfl HO.out (quotaC _ _ _) rfl rfl info_quota (quota_one _ _ _) ?_; intro w2 hO2; have HO2 := Lib.hid hO2; clear hO2)
  exact bodyPost_ret (results_cell_row rfl _ _ w0.heap.size _ (quotaC c w (pr c w)) _ _ rfl HO2.out.head und_quota rfl info_quota) rfl ⟨rfl, HO2.out.below⟩
def ofC (a : Int) : Int := cl a 0 4611686018427387903
def ofW (a : Int) : Int := cl (ofC a / 100) (lo (ofC a)) (hi (ofC a))
theorem ofC_in (a : Int) : 0 ≤ ofC a ∧ ofC a ≤ 4611686018427387903 := cl_in (by omega)
theorem ofW_in (a : Int) : lo (ofC a) ≤ ofW a ∧ ofW a ≤ hi (ofC a) := cl_in (lohi (ofC_in a).1).2.1
/-- a quota that is told -/
def ofQ (a : Int) : Value := .agg (quotaC (ofC a) (ofW a) (pr (ofC a) (ofW a)))
theorem of_calls (a : Int) : TellsQ 23 #[.int .i64 a] (ofQ a) := by
  intro w0
  have hO := (Owned.nil w0).alloc (.cells #[.int .i64 0, .int .i64 0, .int .i64 0] 42)
  have HO := Lib.hid hO
  clear hO
  have hc := ofC_in a
  have hw := ofW_in a
  have hl := lohi hc.1
  have c1 : Tells 39 #[.int .i64 a, .int .i64 0, .int .i64 4611686018427387903] (.int .i64 (ofC a)) := clamp_calls a 0 4611686018427387903
  have c2 := ends_calls (ofC a) hc.1 hc.2
  have c3 : Tells 39 #[.int .i64 (ofC a / 100), .int .i64 (lo (ofC a)), .int .i64 (hi (ofC a))] (.int .i64 (ofW a)) := clamp_calls _ _ _
  have c4 := with_calls (ofC a) (ofW a) (by omega) (by omega) hc.2
  unfold ofQ
  generalize pr (ofC a) (ofW a) = p at *
  generalize ofW a = w at *
  generalize ofC a = c at *
  generalize lo c = l at *
  generalize hi c = h at *
  obtain ⟨hc1, hc2⟩ := hc
  go_enter Try.func23, Try.ntmps23
  go_wp2_with fail
  go_at_call 39
  refine (c1 _).mono ?_
  rintro e w1 ⟨rfl, rfl⟩
  go_wp2_with fail
  go_at_call 40
  refine (c2 _).mono ?_
  rintro e w1 ⟨rfl, rfl⟩
  go_wp2_with fail
  go_at_call 39
  refine (c3 _).mono ?_
  rintro e w1 ⟨rfl, rfl⟩
  go_wp2_with fail
  go_at_call 41
  refine (c4 _).mono ?_
  rintro e w1 ⟨rfl, hb1⟩
  have HO1 := Lib.hid (HO.out.under hb1)
  go_wp2_with (refine store_whole rfl _ _ _ rfl w0.heap.size rfl HO1.out (quotaC _ _ _) rfl rfl info_quota (quota_one _ _ _) ?_; intro w2 hO2; have HO2 := Lib.hid hO2; clear hO2)
  exact bodyPost_ret (results_cell_row rfl _ _ w0.heap.size _ (quotaC c w p) _ _ rfl HO2.out.head und_quota rfl info_quota) rfl ⟨rfl, HO2.out.below⟩
/-- what a shift tells: the window -/
def shW (c w by_ : Int) : Int := cl w (lo (ofC c)) (hi (ofC c)) + cl by_ (lo (ofC c) - cl w (lo (ofC c)) (hi (ofC c))) (hi (ofC c) - cl w (lo (ofC c)) (hi (ofC c)))
def shQ (c w by_ : Int) : Value := .agg (quotaC (ofC c) (shW c w by_) (pr (ofC c) (shW c w by_)))
theorem shW_in (c w by_ : Int) : lo (ofC c) ≤ shW c w by_ ∧ shW c w by_ ≤ hi (ofC c) := by
  have hl := lohi (ofC_in c).1
  have h1 := cl_in (n := w) hl.2.1
  unfold shW
  generalize cl w (lo (ofC c)) (hi (ofC c)) = v at *
  have h2 := cl_in (n := by_) (l := lo (ofC c) - v) (h := hi (ofC c) - v) (by omega)
  omega
theorem shift_calls (a b p by_ : Int) : TellsQ 50 #[.agg (quotaC a b p), .int .i64 by_] (shQ a b by_) := by
  intro w0
  have hO := ((Owned.nil w0).alloc (.cells (quotaC a b p) 42)).alloc (.cells #[.int .i64 0, .int .i64 0, .int .i64 0] 42)
  rw [show (w0.alloc (.cells (quotaC a b p) 42)).heap.size = w0.heap.size + 1 by simp] at hO
  have HO := Lib.hid hO
  clear hO
  have hc := ofC_in a
  have hl := lohi hc.1
  have hsw := shW_in a b by_
  have c1 : Tells 39 #[.int .i64 a, .int .i64 0, .int .i64 4611686018427387903] (.int .i64 (ofC a)) := clamp_calls a 0 4611686018427387903
  have c2 := ends_calls (ofC a) hc.1 hc.2
  have c3 := clamp_calls b (lo (ofC a)) (hi (ofC a))
  have h1 := cl_in (n := b) hl.2.1
  have c4 := clamp_calls by_ (lo (ofC a) - cl b (lo (ofC a)) (hi (ofC a))) (hi (ofC a) - cl b (lo (ofC a)) (hi (ofC a)))
  have h2 := cl_in (n := by_) (l := lo (ofC a) - cl b (lo (ofC a)) (hi (ofC a))) (h := hi (ofC a) - cl b (lo (ofC a)) (hi (ofC a))) (by omega)
  have c5 := with_calls (ofC a) (shW a b by_) (by omega) (by omega) hc.2
  have he : shW a b by_ = cl b (lo (ofC a)) (hi (ofC a)) + cl by_ (lo (ofC a) - cl b (lo (ofC a)) (hi (ofC a))) (hi (ofC a) - cl b (lo (ofC a)) (hi (ofC a))) := rfl
  unfold shQ
  rw [he] at c5 hsw
  rw [he]
  clear he
  generalize cl by_ (lo (ofC a) - cl b (lo (ofC a)) (hi (ofC a))) (hi (ofC a) - cl b (lo (ofC a)) (hi (ofC a))) = v at *
  generalize cl b (lo (ofC a)) (hi (ofC a)) = u at *
  generalize pr (ofC a) (u + v) = q at *
  generalize ofC a = c at *
  generalize lo c = l at *
  generalize hi c = h at *
  obtain ⟨hc1, hc2⟩ := hc
  obtain ⟨hl1, hl2, hl3, hl4⟩ := hl
  obtain ⟨h11, h12⟩ := h1
  obtain ⟨h21, h22⟩ := h2
  obtain ⟨h31, h32⟩ := hsw
  unfold quotaC
  go_enter Try.func50, Try.ntmps50
  go_wp2_with fail
  go_at_call 39
  refine (c1 _).mono ?_
  rintro e w1 ⟨rfl, rfl⟩
  go_wp2_with fail
  go_at_call 40
  refine (c2 _).mono ?_
  rintro e w1 ⟨rfl, rfl⟩
  go_wp2_with fail
  go_at_call 39
  refine (c3 _).mono ?_
  rintro e w1 ⟨rfl, rfl⟩
  go_wp2_with fail
  go_at_call 39
  refine (c4 _).mono ?_
  rintro e w1 ⟨rfl, rfl⟩
  go_wp2_with fail
  go_at_call 41
  refine (c5 _).mono ?_
  rintro e w1 ⟨rfl, hb1⟩
  have HO1 := Lib.hid (HO.out.under hb1)
  go_wp2_with (refine store_whole rfl _ _ _ rfl (w0.heap.size + 1) rfl HO1.out (quotaC _ _ _) rfl rfl info_quota (quota_one _ _ _) ?_; intro w2 hO2; have HO2 := Lib.hid hO2; clear hO2)
  exact bodyPost_ret (results_cell_row rfl _ _ (w0.heap.size + 1) _ (quotaC c (u + v) q) _ _ rfl HO2.out.head und_quota rfl info_quota) rfl ⟨rfl, HO2.out.below⟩
end Go.Proofs.Ytnhdjpeadhcajaa
namespace Go.Proofs.Ytnhdjpeadhcajaa
open Go.RowKit Go.Sep
def rightB (a b p : Int) : Bool := (a == ofC a) && ((b == shW a b 0) && (p == pr (ofC a) (shW a b 0)))
end Go.Proofs.Ytnhdjpeadhcajaa
namespace Go.Proofs.Ytnhdjpeadhcajaa
open Go.RowKit Go.Sep
end Go.Proofs.Ytnhdjpeadhcajaa
namespace Go.Proofs.Ytnhdjpeadhcajaa
open Go.RowKit Go.Sep
end Go.Proofs.Ytnhdjpeadhcajaa
namespace Go.Sep
open Go Go.RowKit
def lookB : Own → Nat → Option Obj
  | [], _ => none
  | p :: r, b => if p.1 = b then some p.2 else lookB r b
def setBk : Own → Nat → Obj → Own
  | [], _, _ => []
  | p :: r, b, o => if p.1 = b then (b, o) :: r else p :: setBk r b o
theorem look_mem : ∀ {r : Own} {b : Nat} {o : Obj}, lookB r b = some o → (b, o) ∈ r
  | [], _, _, h => by simp [lookB] at h
  | p :: r, b, o, h => by
    rw [lookB] at h
    split at h
    · next e => cases h; rw [← e]; simp
    · exact List.mem_cons_of_mem _ (look_mem h)
theorem look_setBk_same : ∀ {r : Own} {b : Nat} {o : Obj} (o' : Obj), lookB r b = some o → lookB (setBk r b o') b = some o'
  | [], _, _, _, h => by simp [lookB] at h
  | p :: r, b, o, o', h => by
    rw [lookB] at h
    rw [setBk]
    split at h
    · next e => rw [if_pos e, lookB, if_pos rfl]
    · next e => rw [if_neg e, lookB, if_neg e]; exact look_setBk_same o' h
theorem look_setBk_ne : ∀ (r : Own) {b c : Nat} (o' : Obj), c ≠ b → lookB (setBk r b o') c = lookB r c
  | [], _, _, _, _ => rfl
  | p :: r, b, c, o', h => by
    rw [setBk]
    by_cases e : p.1 = b
    · rw [if_pos e, lookB, lookB, if_neg (Ne.symm h), if_neg (fun e2 => h (by rw [← e2, e]))]
    · rw [if_neg e, lookB, lookB, look_setBk_ne r o' h]
theorem setBk_twice : ∀ (r : Own) (b : Nat) (o o' : Obj), setBk (setBk r b o) b o' = setBk r b o'
  | [], _, _, _ => rfl
  | p :: r, b, o, o' => by
    rw [setBk, setBk]
    by_cases e : p.1 = b
    · rw [if_pos e, if_pos e, setBk, if_pos rfl]
    · rw [if_neg e, if_neg e, setBk, if_neg e, setBk_twice]
theorem look_split : ∀ {r : Own} {b : Nat} {o : Obj}, lookB r b = some o → ∃ r1 r2, r = r1 ++ (b, o) :: r2 ∧ ∀ o', setBk r b o' = r1 ++ (b, o') :: r2
  | [], _, _, h => by simp [lookB] at h
  | p :: r, b, o, h => by
    rw [lookB] at h
    split at h
    · next e =>
      cases h
      obtain ⟨a, x⟩ := p
      obtain rfl : a = b := e
      exact ⟨[], r, rfl, fun o' => by rw [setBk, if_pos rfl]; rfl⟩
    · next e =>
      obtain ⟨r1, r2, h1, h2⟩ := look_split h
      exact ⟨p :: r1, r2, by rw [h1]; rfl, fun o' => by rw [setBk, if_neg e, h2]; rfl⟩
theorem look_append_none : ∀ {r : Own} (s : Own) {b : Nat}, lookB r b = none → lookB (r ++ s) b = lookB s b
  | [], _, _, _ => rfl
  | p :: r, s, b, h => by
    rw [lookB] at h
    rw [List.cons_append, lookB]
    split at h
    · cases h
    · next e => rw [if_neg e]; exact look_append_none s h
theorem look_cons_ne {p : Nat × Obj} {r : Own} {b : Nat} (h : p.1 ≠ b) : lookB (p :: r) b = lookB r b := by rw [lookB, if_neg h]
theorem look_cons_self (b : Nat) (o : Obj) (r : Own) : lookB ((b, o) :: r) b = some o := by rw [lookB, if_pos rfl]
section
variable {w0 w : World} {r F : Own} {b : Nat}
theorem Owned.look_at {o : Obj} (h : Owned w0 w (r ++ F)) (hl : lookB r b = some o) : w0.heap.size ≤ b ∧ w.heap[b]? = some o := h.at_ (b, o) (List.mem_append_left _ (look_mem hl))
theorem Owned.look_lt {o : Obj} (h : Owned w0 w (r ++ F)) (hl : lookB r b = some o) : b < w.heap.size := (Array.getElem?_eq_some_iff.1 (h.look_at hl).2).1
theorem Owned.look_cell {cs : Array Value} {t : TypeId} {fz : Nat × Nat} (h : Owned w0 w (r ++ F)) (hl : lookB r b = some (.cells cs t fz)) (i : Nat) : w.cell? ⟨b, i, none⟩ = cs[i]? := by
  simp [World.cell?, (h.look_at hl).2]
theorem Owned.look_free {cs : Array Value} {t : TypeId} (h : Owned w0 w (r ++ F)) (hl : lookB r b = some (.cells cs t (0, 0))) (i : Nat) : w.frozen? ⟨b, i, none⟩ = false := by
  simp [World.frozen?, (h.look_at hl).2]
theorem look_front {o : Obj} (hl : lookB r b = some o) : ∃ l, (r ++ F).Perm ((b, o) :: l) ∧ ∀ o', ((b, o') :: l).Perm (setBk r b o' ++ F) := by
  obtain ⟨r1, r2, h1, h2⟩ := look_split hl
  refine ⟨r1 ++ (r2 ++ F), ?_, fun o' => ?_⟩
  · rw [h1, List.append_assoc]
    exact List.perm_middle
  · rw [h2, List.append_assoc]
    exact List.perm_middle.symm
theorem Owned.set_at {cs : Array Value} {t : TypeId} {fz : Nat × Nat} (h : Owned w0 w (r ++ F)) (hl : lookB r b = some (.cells cs t fz)) (i : Nat) (v : Value) :
    Owned w0 (w.setCell ⟨b, i, none⟩ v) (setBk r b (.cells (cs.setIfInBounds i v) t fz) ++ F) := by
  obtain ⟨l, h1, h2⟩ := look_front (F := F) hl
  exact (Owned.set (h.perm h1) i v).perm (h2 _)
/-- one block was turned, others are as they were -/
theorem Owned.turn_at {o o' : Obj} {w' : World} (h : Owned w0 w (r ++ F)) (hl : lookB r b = some o) (hg : w.grownBy w' (some b)) (ho : w'.heap[b]? = some o') : Owned w0 w' (setBk r b o' ++ F) := by
  obtain ⟨l, h1, h2⟩ := look_front (F := F) hl
  have h3 := h.perm h1
  have hn := h3.nodup
  simp only [List.map_cons, List.nodup_cons] at hn
  have ht : Owned w0 w' l := h3.tail.grown hg (fun k hk => by cases hk; exact h3.base) (fun p hp he => hn.1 (List.mem_map.2 ⟨p, hp, by cases he; rfl⟩))
  have h4 : Owned w0 w' ((b, o') :: l) := by
    refine ⟨ht.below, by simpa using hn, ?_⟩
    intro p hp
    rcases List.mem_cons.1 hp with rfl | hp
    · exact ⟨h3.base, ho⟩
    · exact ht.at_ p hp
  exact h4.perm (h2 _)
end
end Go.Sep
