/- The document's arena: Put. -/
import Derived.Test.YtepjebmiegkpnaaRefAr3
import Derived.Test.YtepjebmiegkpnaaSepStep
import Derived.BigQuiet
import Derived.Lib.QuietBelow
namespace Go.Proofs.Ytepjebmiegkpnaa
open Go.RowKit Go.Sep
set_option linter.unusedSimpArgs false
theorem info_node6 : (Try.prog.info? 30).map (fun i => (i.zero, i.size, i.bytes)) = some (some (.agg #[.int .i64 0, .int .i64 0]), 2, 16) := by kernel_rfl
theorem info_bool6 : (Try.prog.info? 4).map (fun i => (i.zero, i.size, i.bytes)) = some (some (.bool false), 1, 1) := by kernel_rfl
theorem cells_two_new (w : World) (x y : Value) (e : TypeId) : ∀ j u, [x, y][j]? = some u → (w.alloc (.cells #[x, y] e)).cell? ((⟨w.heap.size, 0, none⟩ : Addr).add j) = some u := by
  intro j u hj
  rw [Addr.add_lit, Nat.zero_add]
  rcases j with _ | _ | j
  · simp at hj; subst hj; simp
  · simp at hj; subst hj; simp
  · simp at hj
section
variable {g M : Nat} {S : Nodes6} {G : List Nat} {r F : Own} {w0 w : World} {hv lv gv : Value} {q1 q2 q3 : Own}
set_option maxHeartbeats 1600000 in
theorem ra_put_full (k v : Int) (hr : RefAr g M S G r) (hf : M + G.length ≤ S.length) (hn : S.length ≤ 100000) (hG : G.length ≤ 100000) (h : Owned w0 w (r ++ F)) :
    Calls Try.prog 17 #[.pointer (some ⟨g, 0, none⟩), .agg #[.int .i64 k, .int .i64 v]] w (RDid w0 F g M S G (.tuple #[.int .i64 0, .int .i64 2])) := by
  have hO : Owned w0 (w.alloc (.cells #[.int .i64 k, .int .i64 v] 30)) (r ++ ((w.heap.size, .cells #[.int .i64 k, .int .i64 v] 30 (0, 0)) :: F)) := Owned.comm (a := [_]) (h.alloc (.cells #[.int .i64 k, .int .i64 v] 30))
  have hF : ∀ W r', Owned w0 W (r' ++ ((w.heap.size, .cells #[.int .i64 k, .int .i64 v] 30 (0, 0)) :: F)) → Owned w0 W (r' ++ F) := fun W r' hX => Owned.tail (Owned.comm (b := [_]) hX)
  have HF := Lib.hid hF
  clear h hF
  generalize hz : w.heap.size = z at *
  generalize hw : w.alloc (.cells #[.int .i64 k, .int .i64 v] 30) = w1 at *
  have CL : ∀ d os, Calls Try.prog 21 #[.pointer (some ⟨g, 0, none⟩)] (Go.Sort.grow (redrawn w1 d) os) fun e w' => e = .returned (.int .i64 ((S.length : Int) - (G.length : Int))) ∧ Below (Go.Sort.grow (redrawn w1 d) os).heap.size (Go.Sort.grow (redrawn w1 d) os) w' := fun d os => (ra_len hr hn hG (hO.under (below_regrown w1 d os))).mono (by rintro e w' ⟨rfl, rfl⟩; exact ⟨rfl, (Below.refl _ _).drew⟩)
  have hr' := hr
  obtain ⟨hv, lv, gv, q1, q2, q3, rfl, hI⟩ := hr
  obtain ⟨bh, ch, bl, cl, gA, gc, rfl, rfl, rfl, hc⟩ := ra_reads (w0 := w0) (g := g) (M := M) hI
  obtain ⟨c0, -⟩ := hc _ _ hO
  have c0' := cell_regrown c0
  have k1 : (M : Int) ≤ (S.length : Int) - (G.length : Int) := by omega
  have HK := Lib.hid (And.intro hr' hO)
  clear hc hI hO hr'
  generalize S.length = n at *
  generalize G.length = m at *
  clear hn hG hf
  go_enter Try.func17, Try.ntmps17
  go_wp2_with fail
  refine wp_region_quiet_below (by kernel_rfl) (by kernel_rfl) ?_
  repeat (first | go_big_quiet_step ((first | (go_at_call 21; with_reducible exact Calls.regrown_of (CL _ _)))) | quiet_step ((first | (go_at_call 21; with_reducible exact Calls.regrown_of (CL _ _)))))
  refine wpQuiet_nil ?_
  intro _ hw'
  obtain ⟨⟨dq, osq⟩, hw''⟩ := hw'
  subst hw''
  go_wp2_with fail
  refine bodyPost_ret (results_tmp2 rfl _ _ _) rfl ?_
  exact ⟨_, rfl, HK.out.1, HF.out _ _ (HK.out.2.under (below_regrown w1 dq osq))⟩
end
end Go.Proofs.Ytepjebmiegkpnaa
