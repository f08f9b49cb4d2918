/-
  No cell of these rows narrows 'for every input' (looked for: loops, veiled, ifaces, maps, wideKeys, modest, calm, conditions, laid).
  DERIVED. THE GIVEN ROWS OF THIS SEAT. 6 by the template 'for every input the law returns true; each argument reads behind the call as it read before'; 0 by the template 'total and deterministic' (their statements: YtpannfmbganifaaTotals.lean).
  GIVEN WITH THE SEED: the statements are not yours to turn. If you find one false, say at which input.
  Laid BY PROGRAM, IN A SANDBOX (cutbox-rows.mjs): the forced cells as the released guide's own fill.sh prints them over the translation 572f56905772558b… (all of the seat's roots in one cut). By AI agents, Wed Nov 11 2026. No macro, syntax, notation, axiom, sorry.
-/
import Derived.Test.YtpannfmbganifaaChecked
import GoSem.Claim
import GoSem.ClaimJoined
import GoSem.ClaimMapViews
import Derived.JoinedTies
import Derived.KernelRfl
namespace Go.Proofs.Ytpannfmbganifaa
/- THE CELL 'sum', in the pinned program and in every row, IS THE sha256 OF THE DUMP (.gsa) THAT YtpannfmbganifaaProg.lean LOADS. Nothing in Lean hashes anything: it is a label: what it is worth is what the hold of that sum in a sandbox is worth. -/
noncomputable def Try.pinned : Pinned := { name := "ytpannfmbganifaa", sum := "572f56905772558ba81931a9352aa0cb31d62eefb5beba0ed58e20307da594c3", checked := Try.checked }
namespace Rows
def none {H : Type} : Left H := { results := [], args := [] }

/-- 'pantrylaw01.MixTells': WHATEVER THE INPUT: true; the input reads as it did. -/
def mixTellsSpec : ChangeSpec := { name := "mixTells", fn := fun _ => fun
  | [d1, d2, d3, d4] => { results := [.lit (.bool true)], args := [d1, d2, d3, d4] }
  | _ => none }
def mixTellsRow : OpenClaim := { program := "ytpannfmbganifaa", sum := "572f56905772558ba81931a9352aa0cb31d62eefb5beba0ed58e20307da594c3", func := "pantry/pantrylaw01.MixTells", spec := "mixTells", apart := false }
def MixTellsSaid : Prop := mixTellsRow.holds Try.pinned (OpenSpec.ofChange mixTellsSpec)

/-- ITS FALSE NEIGHBOUR: 'it returns false'. Refute it at one input. -/
def mixTellsWrong : ChangeSpec := { name := "mixTells", fn := fun _ => fun
  | [d1, d2, d3, d4] => { results := [.lit (.bool false)], args := [d1, d2, d3, d4] }
  | _ => none }
def MixTellsWrongFalsely : Prop := mixTellsRow.holds Try.pinned (OpenSpec.ofChange mixTellsWrong)

/-- 'pantrylaw01.MixCeils': WHATEVER THE INPUT: true; the input reads as it did. -/
def mixCeilsSpec : ChangeSpec := { name := "mixCeils", fn := fun _ => fun
  | [d1, d2, d3] => { results := [.lit (.bool true)], args := [d1, d2, d3] }
  | _ => none }
def mixCeilsRow : OpenClaim := { program := "ytpannfmbganifaa", sum := "572f56905772558ba81931a9352aa0cb31d62eefb5beba0ed58e20307da594c3", func := "pantry/pantrylaw01.MixCeils", spec := "mixCeils", apart := false }
def MixCeilsSaid : Prop := mixCeilsRow.holds Try.pinned (OpenSpec.ofChange mixCeilsSpec)

/-- ITS FALSE NEIGHBOUR: 'it returns false'. Refute it at one input. -/
def mixCeilsWrong : ChangeSpec := { name := "mixCeils", fn := fun _ => fun
  | [d1, d2, d3] => { results := [.lit (.bool false)], args := [d1, d2, d3] }
  | _ => none }
def MixCeilsWrongFalsely : Prop := mixCeilsRow.holds Try.pinned (OpenSpec.ofChange mixCeilsWrong)

/-- 'pantrylaw01.MixApart': WHATEVER THE INPUT: true; the input reads as it did. -/
def mixApartSpec : ChangeSpec := { name := "mixApart", fn := fun _ => fun
  | [d1, d2, d3, d4] => { results := [.lit (.bool true)], args := [d1, d2, d3, d4] }
  | _ => none }
def mixApartRow : OpenClaim := { program := "ytpannfmbganifaa", sum := "572f56905772558ba81931a9352aa0cb31d62eefb5beba0ed58e20307da594c3", func := "pantry/pantrylaw01.MixApart", spec := "mixApart", apart := false }
def MixApartSaid : Prop := mixApartRow.holds Try.pinned (OpenSpec.ofChange mixApartSpec)

/-- ITS FALSE NEIGHBOUR: 'it returns false'. Refute it at one input. -/
def mixApartWrong : ChangeSpec := { name := "mixApart", fn := fun _ => fun
  | [d1, d2, d3, d4] => { results := [.lit (.bool false)], args := [d1, d2, d3, d4] }
  | _ => none }
def MixApartWrongFalsely : Prop := mixApartRow.holds Try.pinned (OpenSpec.ofChange mixApartWrong)

/-- 'pantrylaw01.MixTurns': WHATEVER THE INPUT: true; the input reads as it did. -/
def mixTurnsSpec : ChangeSpec := { name := "mixTurns", fn := fun _ => fun
  | [d1, d2, d3, d4] => { results := [.lit (.bool true)], args := [d1, d2, d3, d4] }
  | _ => none }
def mixTurnsRow : OpenClaim := { program := "ytpannfmbganifaa", sum := "572f56905772558ba81931a9352aa0cb31d62eefb5beba0ed58e20307da594c3", func := "pantry/pantrylaw01.MixTurns", spec := "mixTurns", apart := false }
def MixTurnsSaid : Prop := mixTurnsRow.holds Try.pinned (OpenSpec.ofChange mixTurnsSpec)

/-- ITS FALSE NEIGHBOUR: 'it returns false'. Refute it at one input. -/
def mixTurnsWrong : ChangeSpec := { name := "mixTurns", fn := fun _ => fun
  | [d1, d2, d3, d4] => { results := [.lit (.bool false)], args := [d1, d2, d3, d4] }
  | _ => none }
def MixTurnsWrongFalsely : Prop := mixTurnsRow.holds Try.pinned (OpenSpec.ofChange mixTurnsWrong)

/-- 'pantrylaw01.MixWraps': WHATEVER THE INPUT: true; the input reads as it did. -/
def mixWrapsSpec : ChangeSpec := { name := "mixWraps", fn := fun _ => fun
  | [d1, d2] => { results := [.lit (.bool true)], args := [d1, d2] }
  | _ => none }
def mixWrapsRow : OpenClaim := { program := "ytpannfmbganifaa", sum := "572f56905772558ba81931a9352aa0cb31d62eefb5beba0ed58e20307da594c3", func := "pantry/pantrylaw01.MixWraps", spec := "mixWraps", apart := false }
def MixWrapsSaid : Prop := mixWrapsRow.holds Try.pinned (OpenSpec.ofChange mixWrapsSpec)

/-- ITS FALSE NEIGHBOUR: 'it returns false'. Refute it at one input. -/
def mixWrapsWrong : ChangeSpec := { name := "mixWraps", fn := fun _ => fun
  | [d1, d2] => { results := [.lit (.bool false)], args := [d1, d2] }
  | _ => none }
def MixWrapsWrongFalsely : Prop := mixWrapsRow.holds Try.pinned (OpenSpec.ofChange mixWrapsWrong)

/-- 'pantrylaw01.MixBelow': WHATEVER THE INPUT: true; the input reads as it did. -/
def mixBelowSpec : ChangeSpec := { name := "mixBelow", fn := fun _ => fun
  | [d1, d2, d3] => { results := [.lit (.bool true)], args := [d1, d2, d3] }
  | _ => none }
def mixBelowRow : OpenClaim := { program := "ytpannfmbganifaa", sum := "572f56905772558ba81931a9352aa0cb31d62eefb5beba0ed58e20307da594c3", func := "pantry/pantrylaw01.MixBelow", spec := "mixBelow", apart := false }
def MixBelowSaid : Prop := mixBelowRow.holds Try.pinned (OpenSpec.ofChange mixBelowSpec)

/-- ITS FALSE NEIGHBOUR: 'it returns false'. Refute it at one input. -/
def mixBelowWrong : ChangeSpec := { name := "mixBelow", fn := fun _ => fun
  | [d1, d2, d3] => { results := [.lit (.bool false)], args := [d1, d2, d3] }
  | _ => none }
def MixBelowWrongFalsely : Prop := mixBelowRow.holds Try.pinned (OpenSpec.ofChange mixBelowWrong)

/- THE SECOND FORM. 'bulk': how many values and letters a reading holds, each counted each time it is reached (what is shared counts as often as it is met; a slice's spare places count too). A statement '..UptoSaid' is the law's where the arguments, and the package variables that the reading takes, are together of bulk at most 1048576: NARROWER than '..Said'. Prove '..Said' where nothing that the law and all that it calls make is longer than what came in: it says more and counts as full. Else prove '..UptoSaid'. A law counts once. -/
mutual
def uptoBulk {H : Type} : DataW H → Nat
  | .lit (.string bytes) => bytes.length + 1
  | .lit _ => 1
  | .nil => 1
  | .ptr d => uptoBulk d + 1
  | .slice elems spare => uptoBulkAll elems + uptoBulkAll spare + 1
  | .agg parts => uptoBulkAll parts + 1
  | .iface _ d => uptoBulk d + 1
  | .map entries => uptoBulkEntries entries + 1
  | .held _ => 1
def uptoBulkAll {H : Type} : List (DataW H) → Nat
  | [] => 0
  | d :: r => uptoBulk d + uptoBulkAll r
def uptoBulkEntries {H : Type} : List (Lit × DataW H) → Nat
  | [] => 0
  | x :: r => uptoBulkEntry x + uptoBulkEntries r
def uptoBulkEntry {H : Type} : Lit × DataW H → Nat
  | (.string bytes, d) => bytes.length + uptoBulk d + 1
  | (_, d) => uptoBulk d + 1
 end
def uptoSmall : (H : Type) → List (DataW H) → Bool := fun _ ds => decide (uptoBulkAll ds ≤ 1048576)
def OpenSpec.upto (s : _root_.Go.ChangeSpec) : _root_.Go.OpenSpec := { _root_.Go.OpenSpec.ofChange s with cond := some uptoSmall }

/-- 'pantrylaw01.MixTells', WHERE WHAT IT READS IS OF BULK AT MOST 1048576: true; the input reads as it did. -/
def mixTellsUptoRow : OpenClaim := { program := "ytpannfmbganifaa", sum := "572f56905772558ba81931a9352aa0cb31d62eefb5beba0ed58e20307da594c3", func := "pantry/pantrylaw01.MixTells", spec := "mixTells", apart := false, narrowed := true }
def MixTellsUptoSaid : Prop := mixTellsUptoRow.holds Try.pinned (OpenSpec.upto mixTellsSpec)

/-- 'pantrylaw01.MixCeils', WHERE WHAT IT READS IS OF BULK AT MOST 1048576: true; the input reads as it did. -/
def mixCeilsUptoRow : OpenClaim := { program := "ytpannfmbganifaa", sum := "572f56905772558ba81931a9352aa0cb31d62eefb5beba0ed58e20307da594c3", func := "pantry/pantrylaw01.MixCeils", spec := "mixCeils", apart := false, narrowed := true }
def MixCeilsUptoSaid : Prop := mixCeilsUptoRow.holds Try.pinned (OpenSpec.upto mixCeilsSpec)

/-- 'pantrylaw01.MixApart', WHERE WHAT IT READS IS OF BULK AT MOST 1048576: true; the input reads as it did. -/
def mixApartUptoRow : OpenClaim := { program := "ytpannfmbganifaa", sum := "572f56905772558ba81931a9352aa0cb31d62eefb5beba0ed58e20307da594c3", func := "pantry/pantrylaw01.MixApart", spec := "mixApart", apart := false, narrowed := true }
def MixApartUptoSaid : Prop := mixApartUptoRow.holds Try.pinned (OpenSpec.upto mixApartSpec)

/-- 'pantrylaw01.MixTurns', WHERE WHAT IT READS IS OF BULK AT MOST 1048576: true; the input reads as it did. -/
def mixTurnsUptoRow : OpenClaim := { program := "ytpannfmbganifaa", sum := "572f56905772558ba81931a9352aa0cb31d62eefb5beba0ed58e20307da594c3", func := "pantry/pantrylaw01.MixTurns", spec := "mixTurns", apart := false, narrowed := true }
def MixTurnsUptoSaid : Prop := mixTurnsUptoRow.holds Try.pinned (OpenSpec.upto mixTurnsSpec)

/-- 'pantrylaw01.MixWraps', WHERE WHAT IT READS IS OF BULK AT MOST 1048576: true; the input reads as it did. -/
def mixWrapsUptoRow : OpenClaim := { program := "ytpannfmbganifaa", sum := "572f56905772558ba81931a9352aa0cb31d62eefb5beba0ed58e20307da594c3", func := "pantry/pantrylaw01.MixWraps", spec := "mixWraps", apart := false, narrowed := true }
def MixWrapsUptoSaid : Prop := mixWrapsUptoRow.holds Try.pinned (OpenSpec.upto mixWrapsSpec)

/-- 'pantrylaw01.MixBelow', WHERE WHAT IT READS IS OF BULK AT MOST 1048576: true; the input reads as it did. -/
def mixBelowUptoRow : OpenClaim := { program := "ytpannfmbganifaa", sum := "572f56905772558ba81931a9352aa0cb31d62eefb5beba0ed58e20307da594c3", func := "pantry/pantrylaw01.MixBelow", spec := "mixBelow", apart := false, narrowed := true }
def MixBelowUptoSaid : Prop := mixBelowUptoRow.holds Try.pinned (OpenSpec.upto mixBelowSpec)

end Rows
end Go.Proofs.Ytpannfmbganifaa
