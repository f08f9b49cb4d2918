/-
  No cell of these rows narrows 'for every input' (looked for: loops, veiled, ifaces, maps, wideKeys, modest, calm, conditions, laid).
  DERIVED. THE GIVEN ROWS OF THIS SEAT. 4 by the template 'for every input the law returns true; each argument reads behind the call as it read before'; 0 by the template 'total and deterministic' (their statements: YtjhoipbffadcjaaTotals.lean).
  GIVEN WITH THE SEED: the statements are not yours to turn. If you find one false, say at which input.
  Laid BY PROGRAM, IN A SANDBOX (cutbox-rows.mjs): the forced cells as the released guide's own fill.sh prints them over the translation 2d74e43fe91ace25… (all of the seat's roots in one cut). By AI agents, Wed Nov 11 2026. No macro, syntax, notation, axiom, sorry.
-/
import Derived.Test.YtjhoipbffadcjaaChecked
import GoSem.Claim
import GoSem.ClaimJoined
import GoSem.ClaimMapViews
import Derived.JoinedTies
import Derived.KernelRfl
namespace Go.Proofs.Ytjhoipbffadcjaa
/- THE CELL 'sum', in the pinned program and in every row, IS THE sha256 OF THE DUMP (.gsa) THAT YtjhoipbffadcjaaProg.lean LOADS. Nothing in Lean hashes anything: it is a label: what it is worth is what the hold of that sum in a sandbox is worth. -/
noncomputable def Try.pinned : Pinned := { name := "ytjhoipbffadcjaa", sum := "2d74e43fe91ace25461109ced6afe9cac726054483f10c74b4a8a53efa77709d", checked := Try.checked }
namespace Rows
def none {H : Type} : Left H := { results := [], args := [] }

/-- 'pantrylaw13.StripesOne': WHATEVER THE INPUT: true; the input reads as it did. -/
def stripesOneSpec : ChangeSpec := { name := "stripesOne", fn := fun _ => fun
  | [d1, d2, d3] => { results := [.lit (.bool true)], args := [d1, d2, d3] }
  | _ => none }
def stripesOneRow : OpenClaim := { program := "ytjhoipbffadcjaa", sum := "2d74e43fe91ace25461109ced6afe9cac726054483f10c74b4a8a53efa77709d", func := "pantry/pantrylaw13.StripesOne", spec := "stripesOne", unfollowed := true, recurses := true, apart := false }
def StripesOneSaid : Prop := stripesOneRow.holds Try.pinned (OpenSpec.ofChange stripesOneSpec)

/-- ITS FALSE NEIGHBOUR: 'it returns false'. Refute it at one input. -/
def stripesOneWrong : ChangeSpec := { name := "stripesOne", fn := fun _ => fun
  | [d1, d2, d3] => { results := [.lit (.bool false)], args := [d1, d2, d3] }
  | _ => none }
def StripesOneWrongFalsely : Prop := stripesOneRow.holds Try.pinned (OpenSpec.ofChange stripesOneWrong)

/-- 'pantrylaw13.StripesLoses': WHATEVER THE INPUT: true; the input reads as it did. -/
def stripesLosesSpec : ChangeSpec := { name := "stripesLoses", fn := fun _ => fun
  | [d1, d2, d3, d4, d5] => { results := [.lit (.bool true)], args := [d1, d2, d3, d4, d5] }
  | _ => none }
def stripesLosesRow : OpenClaim := { program := "ytjhoipbffadcjaa", sum := "2d74e43fe91ace25461109ced6afe9cac726054483f10c74b4a8a53efa77709d", func := "pantry/pantrylaw13.StripesLoses", spec := "stripesLoses", unfollowed := true, recurses := true, apart := false }
def StripesLosesSaid : Prop := stripesLosesRow.holds Try.pinned (OpenSpec.ofChange stripesLosesSpec)

/-- ITS FALSE NEIGHBOUR: 'it returns false'. Refute it at one input. -/
def stripesLosesWrong : ChangeSpec := { name := "stripesLoses", fn := fun _ => fun
  | [d1, d2, d3, d4, d5] => { results := [.lit (.bool false)], args := [d1, d2, d3, d4, d5] }
  | _ => none }
def StripesLosesWrongFalsely : Prop := stripesLosesRow.holds Try.pinned (OpenSpec.ofChange stripesLosesWrong)

/-- 'pantrylaw13.StripesPlay': WHATEVER THE INPUT: true; the input reads as it did. -/
def stripesPlaySpec : ChangeSpec := { name := "stripesPlay", fn := fun _ => fun
  | [d1, d2, d3, d4] => { results := [.lit (.bool true)], args := [d1, d2, d3, d4] }
  | _ => none }
def stripesPlayRow : OpenClaim := { program := "ytjhoipbffadcjaa", sum := "2d74e43fe91ace25461109ced6afe9cac726054483f10c74b4a8a53efa77709d", func := "pantry/pantrylaw13.StripesPlay", spec := "stripesPlay", unfollowed := true, recurses := true, apart := false }
def StripesPlaySaid : Prop := stripesPlayRow.holds Try.pinned (OpenSpec.ofChange stripesPlaySpec)

/-- ITS FALSE NEIGHBOUR: 'it returns false'. Refute it at one input. -/
def stripesPlayWrong : ChangeSpec := { name := "stripesPlay", fn := fun _ => fun
  | [d1, d2, d3, d4] => { results := [.lit (.bool false)], args := [d1, d2, d3, d4] }
  | _ => none }
def StripesPlayWrongFalsely : Prop := stripesPlayRow.holds Try.pinned (OpenSpec.ofChange stripesPlayWrong)

/-- 'pantrylaw13.StripesOrder': WHATEVER THE INPUT: true; the input reads as it did. -/
def stripesOrderSpec : ChangeSpec := { name := "stripesOrder", fn := fun _ => fun
  | [d1, d2, d3, d4] => { results := [.lit (.bool true)], args := [d1, d2, d3, d4] }
  | _ => none }
def stripesOrderRow : OpenClaim := { program := "ytjhoipbffadcjaa", sum := "2d74e43fe91ace25461109ced6afe9cac726054483f10c74b4a8a53efa77709d", func := "pantry/pantrylaw13.StripesOrder", spec := "stripesOrder", unfollowed := true, recurses := true, apart := false }
def StripesOrderSaid : Prop := stripesOrderRow.holds Try.pinned (OpenSpec.ofChange stripesOrderSpec)

/-- ITS FALSE NEIGHBOUR: 'it returns false'. Refute it at one input. -/
def stripesOrderWrong : ChangeSpec := { name := "stripesOrder", fn := fun _ => fun
  | [d1, d2, d3, d4] => { results := [.lit (.bool false)], args := [d1, d2, d3, d4] }
  | _ => none }
def StripesOrderWrongFalsely : Prop := stripesOrderRow.holds Try.pinned (OpenSpec.ofChange stripesOrderWrong)

/- THE SECOND FORM. 'bulk': how many values and letters a reading holds, each counted each time it is reached (what is shared counts as often as it is met; a slice's spare places count too). A statement '..UptoSaid' is the law's where the arguments, and the package variables that the reading takes, are together of bulk at most 1048576: NARROWER than '..Said'. Prove '..Said' where nothing that the law and all that it calls make is longer than what came in: it says more and counts as full. Else prove '..UptoSaid'. A law counts once. -/
mutual
def uptoBulk {H : Type} : DataW H → Nat
  | .lit (.string bytes) => bytes.length + 1
  | .lit _ => 1
  | .nil => 1
  | .ptr d => uptoBulk d + 1
  | .slice elems spare => uptoBulkAll elems + uptoBulkAll spare + 1
  | .agg parts => uptoBulkAll parts + 1
  | .iface _ d => uptoBulk d + 1
  | .map entries => uptoBulkEntries entries + 1
  | .held _ => 1
def uptoBulkAll {H : Type} : List (DataW H) → Nat
  | [] => 0
  | d :: r => uptoBulk d + uptoBulkAll r
def uptoBulkEntries {H : Type} : List (Lit × DataW H) → Nat
  | [] => 0
  | x :: r => uptoBulkEntry x + uptoBulkEntries r
def uptoBulkEntry {H : Type} : Lit × DataW H → Nat
  | (.string bytes, d) => bytes.length + uptoBulk d + 1
  | (_, d) => uptoBulk d + 1
 end
def uptoSmall : (H : Type) → List (DataW H) → Bool := fun _ ds => decide (uptoBulkAll ds ≤ 1048576)
def OpenSpec.upto (s : _root_.Go.ChangeSpec) : _root_.Go.OpenSpec := { _root_.Go.OpenSpec.ofChange s with cond := some uptoSmall }

/-- 'pantrylaw13.StripesOne', WHERE WHAT IT READS IS OF BULK AT MOST 1048576: true; the input reads as it did. -/
def stripesOneUptoRow : OpenClaim := { program := "ytjhoipbffadcjaa", sum := "2d74e43fe91ace25461109ced6afe9cac726054483f10c74b4a8a53efa77709d", func := "pantry/pantrylaw13.StripesOne", spec := "stripesOne", unfollowed := true, recurses := true, apart := false, narrowed := true }
def StripesOneUptoSaid : Prop := stripesOneUptoRow.holds Try.pinned (OpenSpec.upto stripesOneSpec)

/-- 'pantrylaw13.StripesLoses', WHERE WHAT IT READS IS OF BULK AT MOST 1048576: true; the input reads as it did. -/
def stripesLosesUptoRow : OpenClaim := { program := "ytjhoipbffadcjaa", sum := "2d74e43fe91ace25461109ced6afe9cac726054483f10c74b4a8a53efa77709d", func := "pantry/pantrylaw13.StripesLoses", spec := "stripesLoses", unfollowed := true, recurses := true, apart := false, narrowed := true }
def StripesLosesUptoSaid : Prop := stripesLosesUptoRow.holds Try.pinned (OpenSpec.upto stripesLosesSpec)

/-- 'pantrylaw13.StripesPlay', WHERE WHAT IT READS IS OF BULK AT MOST 1048576: true; the input reads as it did. -/
def stripesPlayUptoRow : OpenClaim := { program := "ytjhoipbffadcjaa", sum := "2d74e43fe91ace25461109ced6afe9cac726054483f10c74b4a8a53efa77709d", func := "pantry/pantrylaw13.StripesPlay", spec := "stripesPlay", unfollowed := true, recurses := true, apart := false, narrowed := true }
def StripesPlayUptoSaid : Prop := stripesPlayUptoRow.holds Try.pinned (OpenSpec.upto stripesPlaySpec)

/-- 'pantrylaw13.StripesOrder', WHERE WHAT IT READS IS OF BULK AT MOST 1048576: true; the input reads as it did. -/
def stripesOrderUptoRow : OpenClaim := { program := "ytjhoipbffadcjaa", sum := "2d74e43fe91ace25461109ced6afe9cac726054483f10c74b4a8a53efa77709d", func := "pantry/pantrylaw13.StripesOrder", spec := "stripesOrder", unfollowed := true, recurses := true, apart := false, narrowed := true }
def StripesOrderUptoSaid : Prop := stripesOrderUptoRow.holds Try.pinned (OpenSpec.upto stripesOrderSpec)

end Rows
end Go.Proofs.Ytjhoipbffadcjaa
