/-
  No cell of these rows narrows 'for every input' (looked for: loops, veiled, ifaces, maps, wideKeys, modest, calm, conditions, laid).
  DERIVED. THE GIVEN ROWS OF THIS SEAT. 4 by the template 'for every input the law returns true; each argument reads behind the call as it read before'; 0 by the template 'total and deterministic' (their statements: YtpdboglgjpmcdaaTotals.lean).
  GIVEN WITH THE SEED: the statements are not yours to turn. If you find one false, say at which input.
  Laid BY PROGRAM, IN A SANDBOX (cutbox-rows.mjs): the forced cells as the released guide's own fill.sh prints them over the translation 7e2cd09339707780… (all of the seat's roots in one cut). By AI agents, Wed Nov 11 2026. No macro, syntax, notation, axiom, sorry.
-/
import Derived.Test.YtpdboglgjpmcdaaChecked
import GoSem.Claim
import GoSem.ClaimJoined
import GoSem.ClaimMapViews
import Derived.JoinedTies
import Derived.KernelRfl
namespace Go.Proofs.Ytpdboglgjpmcdaa
/- THE CELL 'sum', in the pinned program and in every row, IS THE sha256 OF THE DUMP (.gsa) THAT YtpdboglgjpmcdaaProg.lean LOADS. Nothing in Lean hashes anything: it is a label: what it is worth is what the hold of that sum in a sandbox is worth. -/
noncomputable def Try.pinned : Pinned := { name := "ytpdboglgjpmcdaa", sum := "7e2cd0933970778013f3e02ccfac4e48b6aa9a6a5f964e57c6a7946a2e55a56a", checked := Try.checked }
namespace Rows
def none {H : Type} : Left H := { results := [], args := [] }

/-- 'pantrylaw03.SketchPlays': WHATEVER THE INPUT: true; the input reads as it did. -/
def sketchPlaysSpec : ChangeSpec := { name := "sketchPlays", fn := fun _ => fun
  | [d1, d2, d3] => { results := [.lit (.bool true)], args := [d1, d2, d3] }
  | _ => none }
def sketchPlaysRow : OpenClaim := { program := "ytpdboglgjpmcdaa", sum := "7e2cd0933970778013f3e02ccfac4e48b6aa9a6a5f964e57c6a7946a2e55a56a", func := "pantry/pantrylaw03.SketchPlays", spec := "sketchPlays", apart := false }
def SketchPlaysSaid : Prop := sketchPlaysRow.holds Try.pinned (OpenSpec.ofChange sketchPlaysSpec)

/-- ITS FALSE NEIGHBOUR: 'it returns false'. Refute it at one input. -/
def sketchPlaysWrong : ChangeSpec := { name := "sketchPlays", fn := fun _ => fun
  | [d1, d2, d3] => { results := [.lit (.bool false)], args := [d1, d2, d3] }
  | _ => none }
def SketchPlaysWrongFalsely : Prop := sketchPlaysRow.holds Try.pinned (OpenSpec.ofChange sketchPlaysWrong)

/-- 'pantrylaw03.SketchCounts': WHATEVER THE INPUT: true; the input reads as it did. -/
def sketchCountsSpec : ChangeSpec := { name := "sketchCounts", fn := fun _ => fun
  | [d1, d2] => { results := [.lit (.bool true)], args := [d1, d2] }
  | _ => none }
def sketchCountsRow : OpenClaim := { program := "ytpdboglgjpmcdaa", sum := "7e2cd0933970778013f3e02ccfac4e48b6aa9a6a5f964e57c6a7946a2e55a56a", func := "pantry/pantrylaw03.SketchCounts", spec := "sketchCounts", apart := false }
def SketchCountsSaid : Prop := sketchCountsRow.holds Try.pinned (OpenSpec.ofChange sketchCountsSpec)

/-- ITS FALSE NEIGHBOUR: 'it returns false'. Refute it at one input. -/
def sketchCountsWrong : ChangeSpec := { name := "sketchCounts", fn := fun _ => fun
  | [d1, d2] => { results := [.lit (.bool false)], args := [d1, d2] }
  | _ => none }
def SketchCountsWrongFalsely : Prop := sketchCountsRow.holds Try.pinned (OpenSpec.ofChange sketchCountsWrong)

/-- 'pantrylaw03.SketchAges': WHATEVER THE INPUT: true; the input reads as it did. -/
def sketchAgesSpec : ChangeSpec := { name := "sketchAges", fn := fun _ => fun
  | [d1, d2, d3] => { results := [.lit (.bool true)], args := [d1, d2, d3] }
  | _ => none }
def sketchAgesRow : OpenClaim := { program := "ytpdboglgjpmcdaa", sum := "7e2cd0933970778013f3e02ccfac4e48b6aa9a6a5f964e57c6a7946a2e55a56a", func := "pantry/pantrylaw03.SketchAges", spec := "sketchAges", apart := false }
def SketchAgesSaid : Prop := sketchAgesRow.holds Try.pinned (OpenSpec.ofChange sketchAgesSpec)

/-- ITS FALSE NEIGHBOUR: 'it returns false'. Refute it at one input. -/
def sketchAgesWrong : ChangeSpec := { name := "sketchAges", fn := fun _ => fun
  | [d1, d2, d3] => { results := [.lit (.bool false)], args := [d1, d2, d3] }
  | _ => none }
def SketchAgesWrongFalsely : Prop := sketchAgesRow.holds Try.pinned (OpenSpec.ofChange sketchAgesWrong)

/-- 'pantrylaw03.SketchAlone': WHATEVER THE INPUT: true; the input reads as it did. -/
def sketchAloneSpec : ChangeSpec := { name := "sketchAlone", fn := fun _ => fun
  | [d1, d2, d3, d4] => { results := [.lit (.bool true)], args := [d1, d2, d3, d4] }
  | _ => none }
def sketchAloneRow : OpenClaim := { program := "ytpdboglgjpmcdaa", sum := "7e2cd0933970778013f3e02ccfac4e48b6aa9a6a5f964e57c6a7946a2e55a56a", func := "pantry/pantrylaw03.SketchAlone", spec := "sketchAlone", apart := false }
def SketchAloneSaid : Prop := sketchAloneRow.holds Try.pinned (OpenSpec.ofChange sketchAloneSpec)

/-- ITS FALSE NEIGHBOUR: 'it returns false'. Refute it at one input. -/
def sketchAloneWrong : ChangeSpec := { name := "sketchAlone", fn := fun _ => fun
  | [d1, d2, d3, d4] => { results := [.lit (.bool false)], args := [d1, d2, d3, d4] }
  | _ => none }
def SketchAloneWrongFalsely : Prop := sketchAloneRow.holds Try.pinned (OpenSpec.ofChange sketchAloneWrong)

/- THE SECOND FORM. 'bulk': how many values and letters a reading holds, each counted each time it is reached (what is shared counts as often as it is met; a slice's spare places count too). A statement '..UptoSaid' is the law's where the arguments, and the package variables that the reading takes, are together of bulk at most 1048576: NARROWER than '..Said'. Prove '..Said' where nothing that the law and all that it calls make is longer than what came in: it says more and counts as full. Else prove '..UptoSaid'. A law counts once. -/
mutual
def uptoBulk {H : Type} : DataW H → Nat
  | .lit (.string bytes) => bytes.length + 1
  | .lit _ => 1
  | .nil => 1
  | .ptr d => uptoBulk d + 1
  | .slice elems spare => uptoBulkAll elems + uptoBulkAll spare + 1
  | .agg parts => uptoBulkAll parts + 1
  | .iface _ d => uptoBulk d + 1
  | .map entries => uptoBulkEntries entries + 1
  | .held _ => 1
def uptoBulkAll {H : Type} : List (DataW H) → Nat
  | [] => 0
  | d :: r => uptoBulk d + uptoBulkAll r
def uptoBulkEntries {H : Type} : List (Lit × DataW H) → Nat
  | [] => 0
  | x :: r => uptoBulkEntry x + uptoBulkEntries r
def uptoBulkEntry {H : Type} : Lit × DataW H → Nat
  | (.string bytes, d) => bytes.length + uptoBulk d + 1
  | (_, d) => uptoBulk d + 1
 end
def uptoSmall : (H : Type) → List (DataW H) → Bool := fun _ ds => decide (uptoBulkAll ds ≤ 1048576)
def OpenSpec.upto (s : _root_.Go.ChangeSpec) : _root_.Go.OpenSpec := { _root_.Go.OpenSpec.ofChange s with cond := some uptoSmall }

/-- 'pantrylaw03.SketchPlays', WHERE WHAT IT READS IS OF BULK AT MOST 1048576: true; the input reads as it did. -/
def sketchPlaysUptoRow : OpenClaim := { program := "ytpdboglgjpmcdaa", sum := "7e2cd0933970778013f3e02ccfac4e48b6aa9a6a5f964e57c6a7946a2e55a56a", func := "pantry/pantrylaw03.SketchPlays", spec := "sketchPlays", apart := false, narrowed := true }
def SketchPlaysUptoSaid : Prop := sketchPlaysUptoRow.holds Try.pinned (OpenSpec.upto sketchPlaysSpec)

/-- 'pantrylaw03.SketchCounts', WHERE WHAT IT READS IS OF BULK AT MOST 1048576: true; the input reads as it did. -/
def sketchCountsUptoRow : OpenClaim := { program := "ytpdboglgjpmcdaa", sum := "7e2cd0933970778013f3e02ccfac4e48b6aa9a6a5f964e57c6a7946a2e55a56a", func := "pantry/pantrylaw03.SketchCounts", spec := "sketchCounts", apart := false, narrowed := true }
def SketchCountsUptoSaid : Prop := sketchCountsUptoRow.holds Try.pinned (OpenSpec.upto sketchCountsSpec)

/-- 'pantrylaw03.SketchAges', WHERE WHAT IT READS IS OF BULK AT MOST 1048576: true; the input reads as it did. -/
def sketchAgesUptoRow : OpenClaim := { program := "ytpdboglgjpmcdaa", sum := "7e2cd0933970778013f3e02ccfac4e48b6aa9a6a5f964e57c6a7946a2e55a56a", func := "pantry/pantrylaw03.SketchAges", spec := "sketchAges", apart := false, narrowed := true }
def SketchAgesUptoSaid : Prop := sketchAgesUptoRow.holds Try.pinned (OpenSpec.upto sketchAgesSpec)

/-- 'pantrylaw03.SketchAlone', WHERE WHAT IT READS IS OF BULK AT MOST 1048576: true; the input reads as it did. -/
def sketchAloneUptoRow : OpenClaim := { program := "ytpdboglgjpmcdaa", sum := "7e2cd0933970778013f3e02ccfac4e48b6aa9a6a5f964e57c6a7946a2e55a56a", func := "pantry/pantrylaw03.SketchAlone", spec := "sketchAlone", apart := false, narrowed := true }
def SketchAloneUptoSaid : Prop := sketchAloneUptoRow.holds Try.pinned (OpenSpec.upto sketchAloneSpec)

end Rows
end Go.Proofs.Ytpdboglgjpmcdaa
