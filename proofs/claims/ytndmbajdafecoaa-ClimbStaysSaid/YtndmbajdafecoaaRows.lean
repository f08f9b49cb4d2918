/-
  No cell of these rows narrows 'for every input' (looked for: loops, veiled, ifaces, maps, wideKeys, modest, calm, conditions, laid).
  DERIVED. THE GIVEN ROWS OF THIS SEAT. 5 by the template 'for every input the law returns true; each argument reads behind the call as it read before'; 0 by the template 'total and deterministic' (their statements: YtndmbajdafecoaaTotals.lean).
  GIVEN WITH THE SEED: the statements are not yours to turn. If you find one false, say at which input.
  Laid BY PROGRAM, IN A SANDBOX (cutbox-rows.mjs): the forced cells as the released guide's own fill.sh prints them over the translation d164f2413a2491a6… (all of the seat's roots in one cut). By AI agents, Wed Nov 11 2026. No macro, syntax, notation, axiom, sorry.
-/
import Derived.Test.YtndmbajdafecoaaChecked
import GoSem.Claim
import GoSem.ClaimJoined
import GoSem.ClaimMapViews
import Derived.JoinedTies
import Derived.KernelRfl
namespace Go.Proofs.Ytndmbajdafecoaa
/- THE CELL 'sum', in the pinned program and in every row, IS THE sha256 OF THE DUMP (.gsa) THAT YtndmbajdafecoaaProg.lean LOADS. Nothing in Lean hashes anything: it is a label: what it is worth is what the hold of that sum in a sandbox is worth. -/
noncomputable def Try.pinned : Pinned := { name := "ytndmbajdafecoaa", sum := "d164f2413a2491a603c95fb43e48242d180a82dca976f64cc956453c3bfab651", checked := Try.checked }
namespace Rows
def none {H : Type} : Left H := { results := [], args := [] }

/-- 'pantrylaw10.ClimbTells': WHATEVER THE INPUT: true; the input reads as it did. -/
def climbTellsSpec : ChangeSpec := { name := "climbTells", fn := fun _ => fun
  | [d1, d2, d3, d4] => { results := [.lit (.bool true)], args := [d1, d2, d3, d4] }
  | _ => none }
def climbTellsRow : OpenClaim := { program := "ytndmbajdafecoaa", sum := "d164f2413a2491a603c95fb43e48242d180a82dca976f64cc956453c3bfab651", func := "pantry/pantrylaw10.ClimbTells", spec := "climbTells", unfollowed := true, recurses := true, apart := false }
def ClimbTellsSaid : Prop := climbTellsRow.holds Try.pinned (OpenSpec.ofChange climbTellsSpec)

/-- ITS FALSE NEIGHBOUR: 'it returns false'. Refute it at one input. -/
def climbTellsWrong : ChangeSpec := { name := "climbTells", fn := fun _ => fun
  | [d1, d2, d3, d4] => { results := [.lit (.bool false)], args := [d1, d2, d3, d4] }
  | _ => none }
def ClimbTellsWrongFalsely : Prop := climbTellsRow.holds Try.pinned (OpenSpec.ofChange climbTellsWrong)

/-- 'pantrylaw10.ClimbPlays': WHATEVER THE INPUT: true; the input reads as it did. -/
def climbPlaysSpec : ChangeSpec := { name := "climbPlays", fn := fun _ => fun
  | [d1, d2, d3] => { results := [.lit (.bool true)], args := [d1, d2, d3] }
  | _ => none }
def climbPlaysRow : OpenClaim := { program := "ytndmbajdafecoaa", sum := "d164f2413a2491a603c95fb43e48242d180a82dca976f64cc956453c3bfab651", func := "pantry/pantrylaw10.ClimbPlays", spec := "climbPlays", unfollowed := true, recurses := true, apart := false }
def ClimbPlaysSaid : Prop := climbPlaysRow.holds Try.pinned (OpenSpec.ofChange climbPlaysSpec)

/-- ITS FALSE NEIGHBOUR: 'it returns false'. Refute it at one input. -/
def climbPlaysWrong : ChangeSpec := { name := "climbPlays", fn := fun _ => fun
  | [d1, d2, d3] => { results := [.lit (.bool false)], args := [d1, d2, d3] }
  | _ => none }
def ClimbPlaysWrongFalsely : Prop := climbPlaysRow.holds Try.pinned (OpenSpec.ofChange climbPlaysWrong)

/-- 'pantrylaw10.ClimbOnward': WHATEVER THE INPUT: true; the input reads as it did. -/
def climbOnwardSpec : ChangeSpec := { name := "climbOnward", fn := fun _ => fun
  | [d1, d2] => { results := [.lit (.bool true)], args := [d1, d2] }
  | _ => none }
def climbOnwardRow : OpenClaim := { program := "ytndmbajdafecoaa", sum := "d164f2413a2491a603c95fb43e48242d180a82dca976f64cc956453c3bfab651", func := "pantry/pantrylaw10.ClimbOnward", spec := "climbOnward", unfollowed := true, recurses := true, apart := false }
def ClimbOnwardSaid : Prop := climbOnwardRow.holds Try.pinned (OpenSpec.ofChange climbOnwardSpec)

/-- ITS FALSE NEIGHBOUR: 'it returns false'. Refute it at one input. -/
def climbOnwardWrong : ChangeSpec := { name := "climbOnward", fn := fun _ => fun
  | [d1, d2] => { results := [.lit (.bool false)], args := [d1, d2] }
  | _ => none }
def ClimbOnwardWrongFalsely : Prop := climbOnwardRow.holds Try.pinned (OpenSpec.ofChange climbOnwardWrong)

/-- 'pantrylaw10.ClimbSteady': WHATEVER THE INPUT: true; the input reads as it did. -/
def climbSteadySpec : ChangeSpec := { name := "climbSteady", fn := fun _ => fun
  | [d1, d2, d3, d4] => { results := [.lit (.bool true)], args := [d1, d2, d3, d4] }
  | _ => none }
def climbSteadyRow : OpenClaim := { program := "ytndmbajdafecoaa", sum := "d164f2413a2491a603c95fb43e48242d180a82dca976f64cc956453c3bfab651", func := "pantry/pantrylaw10.ClimbSteady", spec := "climbSteady", unfollowed := true, recurses := true, apart := false }
def ClimbSteadySaid : Prop := climbSteadyRow.holds Try.pinned (OpenSpec.ofChange climbSteadySpec)

/-- ITS FALSE NEIGHBOUR: 'it returns false'. Refute it at one input. -/
def climbSteadyWrong : ChangeSpec := { name := "climbSteady", fn := fun _ => fun
  | [d1, d2, d3, d4] => { results := [.lit (.bool false)], args := [d1, d2, d3, d4] }
  | _ => none }
def ClimbSteadyWrongFalsely : Prop := climbSteadyRow.holds Try.pinned (OpenSpec.ofChange climbSteadyWrong)

/-- 'pantrylaw10.ClimbStays': WHATEVER THE INPUT: true; the input reads as it did. -/
def climbStaysSpec : ChangeSpec := { name := "climbStays", fn := fun _ => fun
  | [d1, d2, d3] => { results := [.lit (.bool true)], args := [d1, d2, d3] }
  | _ => none }
def climbStaysRow : OpenClaim := { program := "ytndmbajdafecoaa", sum := "d164f2413a2491a603c95fb43e48242d180a82dca976f64cc956453c3bfab651", func := "pantry/pantrylaw10.ClimbStays", spec := "climbStays", unfollowed := true, recurses := true, apart := false }
def ClimbStaysSaid : Prop := climbStaysRow.holds Try.pinned (OpenSpec.ofChange climbStaysSpec)

/-- ITS FALSE NEIGHBOUR: 'it returns false'. Refute it at one input. -/
def climbStaysWrong : ChangeSpec := { name := "climbStays", fn := fun _ => fun
  | [d1, d2, d3] => { results := [.lit (.bool false)], args := [d1, d2, d3] }
  | _ => none }
def ClimbStaysWrongFalsely : Prop := climbStaysRow.holds Try.pinned (OpenSpec.ofChange climbStaysWrong)

/- THE SECOND FORM. 'bulk': how many values and letters a reading holds, each counted each time it is reached (what is shared counts as often as it is met; a slice's spare places count too). A statement '..UptoSaid' is the law's where the arguments, and the package variables that the reading takes, are together of bulk at most 1048576: NARROWER than '..Said'. Prove '..Said' where nothing that the law and all that it calls make is longer than what came in: it says more and counts as full. Else prove '..UptoSaid'. A law counts once. -/
mutual
def uptoBulk {H : Type} : DataW H → Nat
  | .lit (.string bytes) => bytes.length + 1
  | .lit _ => 1
  | .nil => 1
  | .ptr d => uptoBulk d + 1
  | .slice elems spare => uptoBulkAll elems + uptoBulkAll spare + 1
  | .agg parts => uptoBulkAll parts + 1
  | .iface _ d => uptoBulk d + 1
  | .map entries => uptoBulkEntries entries + 1
  | .held _ => 1
def uptoBulkAll {H : Type} : List (DataW H) → Nat
  | [] => 0
  | d :: r => uptoBulk d + uptoBulkAll r
def uptoBulkEntries {H : Type} : List (Lit × DataW H) → Nat
  | [] => 0
  | x :: r => uptoBulkEntry x + uptoBulkEntries r
def uptoBulkEntry {H : Type} : Lit × DataW H → Nat
  | (.string bytes, d) => bytes.length + uptoBulk d + 1
  | (_, d) => uptoBulk d + 1
 end
def uptoSmall : (H : Type) → List (DataW H) → Bool := fun _ ds => decide (uptoBulkAll ds ≤ 1048576)
def OpenSpec.upto (s : _root_.Go.ChangeSpec) : _root_.Go.OpenSpec := { _root_.Go.OpenSpec.ofChange s with cond := some uptoSmall }

/-- 'pantrylaw10.ClimbTells', WHERE WHAT IT READS IS OF BULK AT MOST 1048576: true; the input reads as it did. -/
def climbTellsUptoRow : OpenClaim := { program := "ytndmbajdafecoaa", sum := "d164f2413a2491a603c95fb43e48242d180a82dca976f64cc956453c3bfab651", func := "pantry/pantrylaw10.ClimbTells", spec := "climbTells", unfollowed := true, recurses := true, apart := false, narrowed := true }
def ClimbTellsUptoSaid : Prop := climbTellsUptoRow.holds Try.pinned (OpenSpec.upto climbTellsSpec)

/-- 'pantrylaw10.ClimbPlays', WHERE WHAT IT READS IS OF BULK AT MOST 1048576: true; the input reads as it did. -/
def climbPlaysUptoRow : OpenClaim := { program := "ytndmbajdafecoaa", sum := "d164f2413a2491a603c95fb43e48242d180a82dca976f64cc956453c3bfab651", func := "pantry/pantrylaw10.ClimbPlays", spec := "climbPlays", unfollowed := true, recurses := true, apart := false, narrowed := true }
def ClimbPlaysUptoSaid : Prop := climbPlaysUptoRow.holds Try.pinned (OpenSpec.upto climbPlaysSpec)

/-- 'pantrylaw10.ClimbOnward', WHERE WHAT IT READS IS OF BULK AT MOST 1048576: true; the input reads as it did. -/
def climbOnwardUptoRow : OpenClaim := { program := "ytndmbajdafecoaa", sum := "d164f2413a2491a603c95fb43e48242d180a82dca976f64cc956453c3bfab651", func := "pantry/pantrylaw10.ClimbOnward", spec := "climbOnward", unfollowed := true, recurses := true, apart := false, narrowed := true }
def ClimbOnwardUptoSaid : Prop := climbOnwardUptoRow.holds Try.pinned (OpenSpec.upto climbOnwardSpec)

/-- 'pantrylaw10.ClimbSteady', WHERE WHAT IT READS IS OF BULK AT MOST 1048576: true; the input reads as it did. -/
def climbSteadyUptoRow : OpenClaim := { program := "ytndmbajdafecoaa", sum := "d164f2413a2491a603c95fb43e48242d180a82dca976f64cc956453c3bfab651", func := "pantry/pantrylaw10.ClimbSteady", spec := "climbSteady", unfollowed := true, recurses := true, apart := false, narrowed := true }
def ClimbSteadyUptoSaid : Prop := climbSteadyUptoRow.holds Try.pinned (OpenSpec.upto climbSteadySpec)

/-- 'pantrylaw10.ClimbStays', WHERE WHAT IT READS IS OF BULK AT MOST 1048576: true; the input reads as it did. -/
def climbStaysUptoRow : OpenClaim := { program := "ytndmbajdafecoaa", sum := "d164f2413a2491a603c95fb43e48242d180a82dca976f64cc956453c3bfab651", func := "pantry/pantrylaw10.ClimbStays", spec := "climbStays", unfollowed := true, recurses := true, apart := false, narrowed := true }
def ClimbStaysUptoSaid : Prop := climbStaysUptoRow.holds Try.pinned (OpenSpec.upto climbStaysSpec)

end Rows
end Go.Proofs.Ytndmbajdafecoaa
