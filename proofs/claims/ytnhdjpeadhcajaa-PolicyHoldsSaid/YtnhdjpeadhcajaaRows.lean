/-
  No cell of these rows narrows 'for every input' (looked for: loops, veiled, ifaces, maps, wideKeys, modest, calm, conditions, laid).
  DERIVED. THE GIVEN ROWS OF THIS SEAT. 6 by the template 'for every input the law returns true; each argument reads behind the call as it read before'; 0 by the template 'total and deterministic' (their statements: YtnhdjpeadhcajaaTotals.lean).
  GIVEN WITH THE SEED: the statements are not yours to turn. If you find one false, say at which input.
  Laid BY PROGRAM, IN A SANDBOX (cutbox-rows.mjs): the forced cells as the released guide's own fill.sh prints them over the translation b222140262c2a348… (all of the seat's roots in one cut). By AI agents, Wed Nov 11 2026. No macro, syntax, notation, axiom, sorry.
-/
import Derived.Test.YtnhdjpeadhcajaaChecked
import GoSem.Claim
import GoSem.ClaimJoined
import GoSem.ClaimMapViews
import Derived.JoinedTies
import Derived.KernelRfl
namespace Go.Proofs.Ytnhdjpeadhcajaa
/- THE CELL 'sum', in the pinned program and in every row, IS THE sha256 OF THE DUMP (.gsa) THAT YtnhdjpeadhcajaaProg.lean LOADS. Nothing in Lean hashes anything: it is a label: what it is worth is what the hold of that sum in a sandbox is worth. -/
noncomputable def Try.pinned : Pinned := { name := "ytnhdjpeadhcajaa", sum := "b222140262c2a348c8692968ebdd4516725a377c59deb27d715f26973954109b", checked := Try.checked }
namespace Rows
def none {H : Type} : Left H := { results := [], args := [] }

/-- 'pantrylaw11.PolicyHolds': WHATEVER THE INPUT: true; the input reads as it did. -/
def policyHoldsSpec : ChangeSpec := { name := "policyHolds", fn := fun _ => fun
  | [d1, d2, d3] => { results := [.lit (.bool true)], args := [d1, d2, d3] }
  | _ => none }
def policyHoldsRow : OpenClaim := { program := "ytnhdjpeadhcajaa", sum := "b222140262c2a348c8692968ebdd4516725a377c59deb27d715f26973954109b", func := "pantry/pantrylaw11.PolicyHolds", spec := "policyHolds", unfollowed := true, recurses := true, apart := false }
def PolicyHoldsSaid : Prop := policyHoldsRow.holds Try.pinned (OpenSpec.ofChange policyHoldsSpec)

/-- ITS FALSE NEIGHBOUR: 'it returns false'. Refute it at one input. -/
def policyHoldsWrong : ChangeSpec := { name := "policyHolds", fn := fun _ => fun
  | [d1, d2, d3] => { results := [.lit (.bool false)], args := [d1, d2, d3] }
  | _ => none }
def PolicyHoldsWrongFalsely : Prop := policyHoldsRow.holds Try.pinned (OpenSpec.ofChange policyHoldsWrong)

/-- 'pantrylaw11.PolicySingle': WHATEVER THE INPUT: true; the input reads as it did. -/
def policySingleSpec : ChangeSpec := { name := "policySingle", fn := fun _ => fun
  | [d1, d2, d3] => { results := [.lit (.bool true)], args := [d1, d2, d3] }
  | _ => none }
def policySingleRow : OpenClaim := { program := "ytnhdjpeadhcajaa", sum := "b222140262c2a348c8692968ebdd4516725a377c59deb27d715f26973954109b", func := "pantry/pantrylaw11.PolicySingle", spec := "policySingle", unfollowed := true, recurses := true, apart := false }
def PolicySingleSaid : Prop := policySingleRow.holds Try.pinned (OpenSpec.ofChange policySingleSpec)

/-- ITS FALSE NEIGHBOUR: 'it returns false'. Refute it at one input. -/
def policySingleWrong : ChangeSpec := { name := "policySingle", fn := fun _ => fun
  | [d1, d2, d3] => { results := [.lit (.bool false)], args := [d1, d2, d3] }
  | _ => none }
def PolicySingleWrongFalsely : Prop := policySingleRow.holds Try.pinned (OpenSpec.ofChange policySingleWrong)

/-- 'pantrylaw11.PolicyKeeps': WHATEVER THE INPUT: true; the input reads as it did. -/
def policyKeepsSpec : ChangeSpec := { name := "policyKeeps", fn := fun _ => fun
  | [d1, d2, d3] => { results := [.lit (.bool true)], args := [d1, d2, d3] }
  | _ => none }
def policyKeepsRow : OpenClaim := { program := "ytnhdjpeadhcajaa", sum := "b222140262c2a348c8692968ebdd4516725a377c59deb27d715f26973954109b", func := "pantry/pantrylaw11.PolicyKeeps", spec := "policyKeeps", unfollowed := true, recurses := true, apart := false }
def PolicyKeepsSaid : Prop := policyKeepsRow.holds Try.pinned (OpenSpec.ofChange policyKeepsSpec)

/-- ITS FALSE NEIGHBOUR: 'it returns false'. Refute it at one input. -/
def policyKeepsWrong : ChangeSpec := { name := "policyKeeps", fn := fun _ => fun
  | [d1, d2, d3] => { results := [.lit (.bool false)], args := [d1, d2, d3] }
  | _ => none }
def PolicyKeepsWrongFalsely : Prop := policyKeepsRow.holds Try.pinned (OpenSpec.ofChange policyKeepsWrong)

/-- 'pantrylaw11.PolicyHot': WHATEVER THE INPUT: true; the input reads as it did. -/
def policyHotSpec : ChangeSpec := { name := "policyHot", fn := fun _ => fun
  | [d1, d2, d3, d4] => { results := [.lit (.bool true)], args := [d1, d2, d3, d4] }
  | _ => none }
def policyHotRow : OpenClaim := { program := "ytnhdjpeadhcajaa", sum := "b222140262c2a348c8692968ebdd4516725a377c59deb27d715f26973954109b", func := "pantry/pantrylaw11.PolicyHot", spec := "policyHot", unfollowed := true, recurses := true, apart := false }
def PolicyHotSaid : Prop := policyHotRow.holds Try.pinned (OpenSpec.ofChange policyHotSpec)

/-- ITS FALSE NEIGHBOUR: 'it returns false'. Refute it at one input. -/
def policyHotWrong : ChangeSpec := { name := "policyHot", fn := fun _ => fun
  | [d1, d2, d3, d4] => { results := [.lit (.bool false)], args := [d1, d2, d3, d4] }
  | _ => none }
def PolicyHotWrongFalsely : Prop := policyHotRow.holds Try.pinned (OpenSpec.ofChange policyHotWrong)

/-- 'pantrylaw11.PolicyRow': WHATEVER THE INPUT: true; the input reads as it did. -/
def policyRowSpec : ChangeSpec := { name := "policyRow", fn := fun _ => fun
  | [d1, d2, d3] => { results := [.lit (.bool true)], args := [d1, d2, d3] }
  | _ => none }
def policyRowRow : OpenClaim := { program := "ytnhdjpeadhcajaa", sum := "b222140262c2a348c8692968ebdd4516725a377c59deb27d715f26973954109b", func := "pantry/pantrylaw11.PolicyRow", spec := "policyRow", unfollowed := true, recurses := true, apart := false }
def PolicyRowSaid : Prop := policyRowRow.holds Try.pinned (OpenSpec.ofChange policyRowSpec)

/-- ITS FALSE NEIGHBOUR: 'it returns false'. Refute it at one input. -/
def policyRowWrong : ChangeSpec := { name := "policyRow", fn := fun _ => fun
  | [d1, d2, d3] => { results := [.lit (.bool false)], args := [d1, d2, d3] }
  | _ => none }
def PolicyRowWrongFalsely : Prop := policyRowRow.holds Try.pinned (OpenSpec.ofChange policyRowWrong)

/-- 'pantrylaw11.PolicyErrors': WHATEVER THE INPUT: true; the input reads as it did. -/
def policyErrorsSpec : ChangeSpec := { name := "policyErrors", fn := fun _ => fun
  | [d1, d2, d3, d4] => { results := [.lit (.bool true)], args := [d1, d2, d3, d4] }
  | _ => none }
def policyErrorsRow : OpenClaim := { program := "ytnhdjpeadhcajaa", sum := "b222140262c2a348c8692968ebdd4516725a377c59deb27d715f26973954109b", func := "pantry/pantrylaw11.PolicyErrors", spec := "policyErrors", unfollowed := true, recurses := true, apart := false }
def PolicyErrorsSaid : Prop := policyErrorsRow.holds Try.pinned (OpenSpec.ofChange policyErrorsSpec)

/-- ITS FALSE NEIGHBOUR: 'it returns false'. Refute it at one input. -/
def policyErrorsWrong : ChangeSpec := { name := "policyErrors", fn := fun _ => fun
  | [d1, d2, d3, d4] => { results := [.lit (.bool false)], args := [d1, d2, d3, d4] }
  | _ => none }
def PolicyErrorsWrongFalsely : Prop := policyErrorsRow.holds Try.pinned (OpenSpec.ofChange policyErrorsWrong)

/- THE SECOND FORM. 'bulk': how many values and letters a reading holds, each counted each time it is reached (what is shared counts as often as it is met; a slice's spare places count too). A statement '..UptoSaid' is the law's where the arguments, and the package variables that the reading takes, are together of bulk at most 1048576: NARROWER than '..Said'. Prove '..Said' where nothing that the law and all that it calls make is longer than what came in: it says more and counts as full. Else prove '..UptoSaid'. A law counts once. -/
mutual
def uptoBulk {H : Type} : DataW H → Nat
  | .lit (.string bytes) => bytes.length + 1
  | .lit _ => 1
  | .nil => 1
  | .ptr d => uptoBulk d + 1
  | .slice elems spare => uptoBulkAll elems + uptoBulkAll spare + 1
  | .agg parts => uptoBulkAll parts + 1
  | .iface _ d => uptoBulk d + 1
  | .map entries => uptoBulkEntries entries + 1
  | .held _ => 1
def uptoBulkAll {H : Type} : List (DataW H) → Nat
  | [] => 0
  | d :: r => uptoBulk d + uptoBulkAll r
def uptoBulkEntries {H : Type} : List (Lit × DataW H) → Nat
  | [] => 0
  | x :: r => uptoBulkEntry x + uptoBulkEntries r
def uptoBulkEntry {H : Type} : Lit × DataW H → Nat
  | (.string bytes, d) => bytes.length + uptoBulk d + 1
  | (_, d) => uptoBulk d + 1
 end
def uptoSmall : (H : Type) → List (DataW H) → Bool := fun _ ds => decide (uptoBulkAll ds ≤ 1048576)
def OpenSpec.upto (s : _root_.Go.ChangeSpec) : _root_.Go.OpenSpec := { _root_.Go.OpenSpec.ofChange s with cond := some uptoSmall }

/-- 'pantrylaw11.PolicyHolds', WHERE WHAT IT READS IS OF BULK AT MOST 1048576: true; the input reads as it did. -/
def policyHoldsUptoRow : OpenClaim := { program := "ytnhdjpeadhcajaa", sum := "b222140262c2a348c8692968ebdd4516725a377c59deb27d715f26973954109b", func := "pantry/pantrylaw11.PolicyHolds", spec := "policyHolds", unfollowed := true, recurses := true, apart := false, narrowed := true }
def PolicyHoldsUptoSaid : Prop := policyHoldsUptoRow.holds Try.pinned (OpenSpec.upto policyHoldsSpec)

/-- 'pantrylaw11.PolicySingle', WHERE WHAT IT READS IS OF BULK AT MOST 1048576: true; the input reads as it did. -/
def policySingleUptoRow : OpenClaim := { program := "ytnhdjpeadhcajaa", sum := "b222140262c2a348c8692968ebdd4516725a377c59deb27d715f26973954109b", func := "pantry/pantrylaw11.PolicySingle", spec := "policySingle", unfollowed := true, recurses := true, apart := false, narrowed := true }
def PolicySingleUptoSaid : Prop := policySingleUptoRow.holds Try.pinned (OpenSpec.upto policySingleSpec)

/-- 'pantrylaw11.PolicyKeeps', WHERE WHAT IT READS IS OF BULK AT MOST 1048576: true; the input reads as it did. -/
def policyKeepsUptoRow : OpenClaim := { program := "ytnhdjpeadhcajaa", sum := "b222140262c2a348c8692968ebdd4516725a377c59deb27d715f26973954109b", func := "pantry/pantrylaw11.PolicyKeeps", spec := "policyKeeps", unfollowed := true, recurses := true, apart := false, narrowed := true }
def PolicyKeepsUptoSaid : Prop := policyKeepsUptoRow.holds Try.pinned (OpenSpec.upto policyKeepsSpec)

/-- 'pantrylaw11.PolicyHot', WHERE WHAT IT READS IS OF BULK AT MOST 1048576: true; the input reads as it did. -/
def policyHotUptoRow : OpenClaim := { program := "ytnhdjpeadhcajaa", sum := "b222140262c2a348c8692968ebdd4516725a377c59deb27d715f26973954109b", func := "pantry/pantrylaw11.PolicyHot", spec := "policyHot", unfollowed := true, recurses := true, apart := false, narrowed := true }
def PolicyHotUptoSaid : Prop := policyHotUptoRow.holds Try.pinned (OpenSpec.upto policyHotSpec)

/-- 'pantrylaw11.PolicyRow', WHERE WHAT IT READS IS OF BULK AT MOST 1048576: true; the input reads as it did. -/
def policyRowUptoRow : OpenClaim := { program := "ytnhdjpeadhcajaa", sum := "b222140262c2a348c8692968ebdd4516725a377c59deb27d715f26973954109b", func := "pantry/pantrylaw11.PolicyRow", spec := "policyRow", unfollowed := true, recurses := true, apart := false, narrowed := true }
def PolicyRowUptoSaid : Prop := policyRowUptoRow.holds Try.pinned (OpenSpec.upto policyRowSpec)

/-- 'pantrylaw11.PolicyErrors', WHERE WHAT IT READS IS OF BULK AT MOST 1048576: true; the input reads as it did. -/
def policyErrorsUptoRow : OpenClaim := { program := "ytnhdjpeadhcajaa", sum := "b222140262c2a348c8692968ebdd4516725a377c59deb27d715f26973954109b", func := "pantry/pantrylaw11.PolicyErrors", spec := "policyErrors", unfollowed := true, recurses := true, apart := false, narrowed := true }
def PolicyErrorsUptoSaid : Prop := policyErrorsUptoRow.holds Try.pinned (OpenSpec.upto policyErrorsSpec)

end Rows
end Go.Proofs.Ytnhdjpeadhcajaa
