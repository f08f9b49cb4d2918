/-
  No cell of these rows narrows 'for every input' (looked for: loops, veiled, ifaces, maps, wideKeys, modest, calm, conditions, laid).
  DERIVED. THE GIVEN ROWS OF THIS SEAT. 6 by the template 'for every input the law returns true; each argument reads behind the call as it read before'; 0 by the template 'total and deterministic' (their statements: YtfjnimlmedmdhaaTotals.lean).
  GIVEN WITH THE SEED: the statements are not yours to turn. If you find one false, say at which input.
  Laid BY PROGRAM, IN A SANDBOX (cutbox-rows.mjs): the forced cells as the released guide's own fill.sh prints them over the translation 7af7b5a8b1c1f2b3… (all of the seat's roots in one cut). By AI agents, Wed Nov 11 2026. No macro, syntax, notation, axiom, sorry.
-/
import Derived.Test.YtfjnimlmedmdhaaChecked
import GoSem.Claim
import GoSem.ClaimJoined
import GoSem.ClaimMapViews
import Derived.JoinedTies
import Derived.KernelRfl
namespace Go.Proofs.Ytfjnimlmedmdhaa
/- THE CELL 'sum', in the pinned program and in every row, IS THE sha256 OF THE DUMP (.gsa) THAT YtfjnimlmedmdhaaProg.lean LOADS. Nothing in Lean hashes anything: it is a label: what it is worth is what the hold of that sum in a sandbox is worth. -/
noncomputable def Try.pinned : Pinned := { name := "ytfjnimlmedmdhaa", sum := "7af7b5a8b1c1f2b3dc42eba392bebed7e228204079bb96b0a2618bccdf47eab5", checked := Try.checked }
namespace Rows
def none {H : Type} : Left H := { results := [], args := [] }

/-- 'pantrylaw02.NibbleTells': WHATEVER THE INPUT: true; the input reads as it did. -/
def nibbleTellsSpec : ChangeSpec := { name := "nibbleTells", fn := fun _ => fun
  | [d1, d2, d3] => { results := [.lit (.bool true)], args := [d1, d2, d3] }
  | _ => none }
def nibbleTellsRow : OpenClaim := { program := "ytfjnimlmedmdhaa", sum := "7af7b5a8b1c1f2b3dc42eba392bebed7e228204079bb96b0a2618bccdf47eab5", func := "pantry/pantrylaw02.NibbleTells", spec := "nibbleTells", apart := false }
def NibbleTellsSaid : Prop := nibbleTellsRow.holds Try.pinned (OpenSpec.ofChange nibbleTellsSpec)

/-- ITS FALSE NEIGHBOUR: 'it returns false'. Refute it at one input. -/
def nibbleTellsWrong : ChangeSpec := { name := "nibbleTells", fn := fun _ => fun
  | [d1, d2, d3] => { results := [.lit (.bool false)], args := [d1, d2, d3] }
  | _ => none }
def NibbleTellsWrongFalsely : Prop := nibbleTellsRow.holds Try.pinned (OpenSpec.ofChange nibbleTellsWrong)

/-- 'pantrylaw02.NibbleHalves': WHATEVER THE INPUT: true; the input reads as it did. -/
def nibbleHalvesSpec : ChangeSpec := { name := "nibbleHalves", fn := fun _ => fun
  | [d] => { results := [.lit (.bool true)], args := [d] }
  | _ => none }
def nibbleHalvesRow : OpenClaim := { program := "ytfjnimlmedmdhaa", sum := "7af7b5a8b1c1f2b3dc42eba392bebed7e228204079bb96b0a2618bccdf47eab5", func := "pantry/pantrylaw02.NibbleHalves", spec := "nibbleHalves", apart := false }
def NibbleHalvesSaid : Prop := nibbleHalvesRow.holds Try.pinned (OpenSpec.ofChange nibbleHalvesSpec)

/-- ITS FALSE NEIGHBOUR: 'it returns false'. Refute it at one input. -/
def nibbleHalvesWrong : ChangeSpec := { name := "nibbleHalves", fn := fun _ => fun
  | [d] => { results := [.lit (.bool false)], args := [d] }
  | _ => none }
def NibbleHalvesWrongFalsely : Prop := nibbleHalvesRow.holds Try.pinned (OpenSpec.ofChange nibbleHalvesWrong)

/-- 'pantrylaw02.NibbleAlone': WHATEVER THE INPUT: true; the input reads as it did. -/
def nibbleAloneSpec : ChangeSpec := { name := "nibbleAlone", fn := fun _ => fun
  | [d1, d2, d3] => { results := [.lit (.bool true)], args := [d1, d2, d3] }
  | _ => none }
def nibbleAloneRow : OpenClaim := { program := "ytfjnimlmedmdhaa", sum := "7af7b5a8b1c1f2b3dc42eba392bebed7e228204079bb96b0a2618bccdf47eab5", func := "pantry/pantrylaw02.NibbleAlone", spec := "nibbleAlone", apart := false }
def NibbleAloneSaid : Prop := nibbleAloneRow.holds Try.pinned (OpenSpec.ofChange nibbleAloneSpec)

/-- ITS FALSE NEIGHBOUR: 'it returns false'. Refute it at one input. -/
def nibbleAloneWrong : ChangeSpec := { name := "nibbleAlone", fn := fun _ => fun
  | [d1, d2, d3] => { results := [.lit (.bool false)], args := [d1, d2, d3] }
  | _ => none }
def NibbleAloneWrongFalsely : Prop := nibbleAloneRow.holds Try.pinned (OpenSpec.ofChange nibbleAloneWrong)

/-- 'pantrylaw02.NibbleAges': WHATEVER THE INPUT: true; the input reads as it did. -/
def nibbleAgesSpec : ChangeSpec := { name := "nibbleAges", fn := fun _ => fun
  | [d] => { results := [.lit (.bool true)], args := [d] }
  | _ => none }
def nibbleAgesRow : OpenClaim := { program := "ytfjnimlmedmdhaa", sum := "7af7b5a8b1c1f2b3dc42eba392bebed7e228204079bb96b0a2618bccdf47eab5", func := "pantry/pantrylaw02.NibbleAges", spec := "nibbleAges", apart := false }
def NibbleAgesSaid : Prop := nibbleAgesRow.holds Try.pinned (OpenSpec.ofChange nibbleAgesSpec)

/-- ITS FALSE NEIGHBOUR: 'it returns false'. Refute it at one input. -/
def nibbleAgesWrong : ChangeSpec := { name := "nibbleAges", fn := fun _ => fun
  | [d] => { results := [.lit (.bool false)], args := [d] }
  | _ => none }
def NibbleAgesWrongFalsely : Prop := nibbleAgesRow.holds Try.pinned (OpenSpec.ofChange nibbleAgesWrong)

/-- 'pantrylaw02.NibbleSets': WHATEVER THE INPUT: true; the input reads as it did. -/
def nibbleSetsSpec : ChangeSpec := { name := "nibbleSets", fn := fun _ => fun
  | [d1, d2, d3, d4] => { results := [.lit (.bool true)], args := [d1, d2, d3, d4] }
  | _ => none }
def nibbleSetsRow : OpenClaim := { program := "ytfjnimlmedmdhaa", sum := "7af7b5a8b1c1f2b3dc42eba392bebed7e228204079bb96b0a2618bccdf47eab5", func := "pantry/pantrylaw02.NibbleSets", spec := "nibbleSets", apart := false }
def NibbleSetsSaid : Prop := nibbleSetsRow.holds Try.pinned (OpenSpec.ofChange nibbleSetsSpec)

/-- ITS FALSE NEIGHBOUR: 'it returns false'. Refute it at one input. -/
def nibbleSetsWrong : ChangeSpec := { name := "nibbleSets", fn := fun _ => fun
  | [d1, d2, d3, d4] => { results := [.lit (.bool false)], args := [d1, d2, d3, d4] }
  | _ => none }
def NibbleSetsWrongFalsely : Prop := nibbleSetsRow.holds Try.pinned (OpenSpec.ofChange nibbleSetsWrong)

/-- 'pantrylaw02.NibbleFills': WHATEVER THE INPUT: true; the input reads as it did. -/
def nibbleFillsSpec : ChangeSpec := { name := "nibbleFills", fn := fun _ => fun
  | [d1, d2] => { results := [.lit (.bool true)], args := [d1, d2] }
  | _ => none }
def nibbleFillsRow : OpenClaim := { program := "ytfjnimlmedmdhaa", sum := "7af7b5a8b1c1f2b3dc42eba392bebed7e228204079bb96b0a2618bccdf47eab5", func := "pantry/pantrylaw02.NibbleFills", spec := "nibbleFills", apart := false }
def NibbleFillsSaid : Prop := nibbleFillsRow.holds Try.pinned (OpenSpec.ofChange nibbleFillsSpec)

/-- ITS FALSE NEIGHBOUR: 'it returns false'. Refute it at one input. -/
def nibbleFillsWrong : ChangeSpec := { name := "nibbleFills", fn := fun _ => fun
  | [d1, d2] => { results := [.lit (.bool false)], args := [d1, d2] }
  | _ => none }
def NibbleFillsWrongFalsely : Prop := nibbleFillsRow.holds Try.pinned (OpenSpec.ofChange nibbleFillsWrong)

/- THE SECOND FORM. 'bulk': how many values and letters a reading holds, each counted each time it is reached (what is shared counts as often as it is met; a slice's spare places count too). A statement '..UptoSaid' is the law's where the arguments, and the package variables that the reading takes, are together of bulk at most 1048576: NARROWER than '..Said'. Prove '..Said' where nothing that the law and all that it calls make is longer than what came in: it says more and counts as full. Else prove '..UptoSaid'. A law counts once. -/
mutual
def uptoBulk {H : Type} : DataW H → Nat
  | .lit (.string bytes) => bytes.length + 1
  | .lit _ => 1
  | .nil => 1
  | .ptr d => uptoBulk d + 1
  | .slice elems spare => uptoBulkAll elems + uptoBulkAll spare + 1
  | .agg parts => uptoBulkAll parts + 1
  | .iface _ d => uptoBulk d + 1
  | .map entries => uptoBulkEntries entries + 1
  | .held _ => 1
def uptoBulkAll {H : Type} : List (DataW H) → Nat
  | [] => 0
  | d :: r => uptoBulk d + uptoBulkAll r
def uptoBulkEntries {H : Type} : List (Lit × DataW H) → Nat
  | [] => 0
  | x :: r => uptoBulkEntry x + uptoBulkEntries r
def uptoBulkEntry {H : Type} : Lit × DataW H → Nat
  | (.string bytes, d) => bytes.length + uptoBulk d + 1
  | (_, d) => uptoBulk d + 1
 end
def uptoSmall : (H : Type) → List (DataW H) → Bool := fun _ ds => decide (uptoBulkAll ds ≤ 1048576)
def OpenSpec.upto (s : _root_.Go.ChangeSpec) : _root_.Go.OpenSpec := { _root_.Go.OpenSpec.ofChange s with cond := some uptoSmall }

/-- 'pantrylaw02.NibbleTells', WHERE WHAT IT READS IS OF BULK AT MOST 1048576: true; the input reads as it did. -/
def nibbleTellsUptoRow : OpenClaim := { program := "ytfjnimlmedmdhaa", sum := "7af7b5a8b1c1f2b3dc42eba392bebed7e228204079bb96b0a2618bccdf47eab5", func := "pantry/pantrylaw02.NibbleTells", spec := "nibbleTells", apart := false, narrowed := true }
def NibbleTellsUptoSaid : Prop := nibbleTellsUptoRow.holds Try.pinned (OpenSpec.upto nibbleTellsSpec)

/-- 'pantrylaw02.NibbleHalves', WHERE WHAT IT READS IS OF BULK AT MOST 1048576: true; the input reads as it did. -/
def nibbleHalvesUptoRow : OpenClaim := { program := "ytfjnimlmedmdhaa", sum := "7af7b5a8b1c1f2b3dc42eba392bebed7e228204079bb96b0a2618bccdf47eab5", func := "pantry/pantrylaw02.NibbleHalves", spec := "nibbleHalves", apart := false, narrowed := true }
def NibbleHalvesUptoSaid : Prop := nibbleHalvesUptoRow.holds Try.pinned (OpenSpec.upto nibbleHalvesSpec)

/-- 'pantrylaw02.NibbleAlone', WHERE WHAT IT READS IS OF BULK AT MOST 1048576: true; the input reads as it did. -/
def nibbleAloneUptoRow : OpenClaim := { program := "ytfjnimlmedmdhaa", sum := "7af7b5a8b1c1f2b3dc42eba392bebed7e228204079bb96b0a2618bccdf47eab5", func := "pantry/pantrylaw02.NibbleAlone", spec := "nibbleAlone", apart := false, narrowed := true }
def NibbleAloneUptoSaid : Prop := nibbleAloneUptoRow.holds Try.pinned (OpenSpec.upto nibbleAloneSpec)

/-- 'pantrylaw02.NibbleAges', WHERE WHAT IT READS IS OF BULK AT MOST 1048576: true; the input reads as it did. -/
def nibbleAgesUptoRow : OpenClaim := { program := "ytfjnimlmedmdhaa", sum := "7af7b5a8b1c1f2b3dc42eba392bebed7e228204079bb96b0a2618bccdf47eab5", func := "pantry/pantrylaw02.NibbleAges", spec := "nibbleAges", apart := false, narrowed := true }
def NibbleAgesUptoSaid : Prop := nibbleAgesUptoRow.holds Try.pinned (OpenSpec.upto nibbleAgesSpec)

/-- 'pantrylaw02.NibbleSets', WHERE WHAT IT READS IS OF BULK AT MOST 1048576: true; the input reads as it did. -/
def nibbleSetsUptoRow : OpenClaim := { program := "ytfjnimlmedmdhaa", sum := "7af7b5a8b1c1f2b3dc42eba392bebed7e228204079bb96b0a2618bccdf47eab5", func := "pantry/pantrylaw02.NibbleSets", spec := "nibbleSets", apart := false, narrowed := true }
def NibbleSetsUptoSaid : Prop := nibbleSetsUptoRow.holds Try.pinned (OpenSpec.upto nibbleSetsSpec)

/-- 'pantrylaw02.NibbleFills', WHERE WHAT IT READS IS OF BULK AT MOST 1048576: true; the input reads as it did. -/
def nibbleFillsUptoRow : OpenClaim := { program := "ytfjnimlmedmdhaa", sum := "7af7b5a8b1c1f2b3dc42eba392bebed7e228204079bb96b0a2618bccdf47eab5", func := "pantry/pantrylaw02.NibbleFills", spec := "nibbleFills", apart := false, narrowed := true }
def NibbleFillsUptoSaid : Prop := nibbleFillsUptoRow.holds Try.pinned (OpenSpec.upto nibbleFillsSpec)

end Rows
end Go.Proofs.Ytfjnimlmedmdhaa
