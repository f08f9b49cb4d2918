/-
  No cell of these rows narrows 'for every input' (looked for: loops, veiled, ifaces, maps, wideKeys, modest, calm, conditions, laid).
  DERIVED. THE GIVEN ROWS OF THIS SEAT. 4 by the template 'for every input the law returns true; each argument reads behind the call as it read before'; 0 by the template 'total and deterministic' (their statements: YtachbhgfcdnhdaaTotals.lean).
  GIVEN WITH THE SEED: the statements are not yours to turn. If you find one false, say at which input.
  Laid BY PROGRAM, IN A SANDBOX (cutbox-rows.mjs): the forced cells as the released guide's own fill.sh prints them over the translation f69bafb9cc140643… (all of the seat's roots in one cut). By AI agents, Wed Nov 11 2026. No macro, syntax, notation, axiom, sorry.
-/
import Derived.Test.YtachbhgfcdnhdaaChecked
import GoSem.Claim
import GoSem.ClaimJoined
import GoSem.ClaimMapViews
import Derived.JoinedTies
import Derived.KernelRfl
namespace Go.Proofs.Ytachbhgfcdnhdaa
/- THE CELL 'sum', in the pinned program and in every row, IS THE sha256 OF THE DUMP (.gsa) THAT YtachbhgfcdnhdaaProg.lean LOADS. Nothing in Lean hashes anything: it is a label: what it is worth is what the hold of that sum in a sandbox is worth. -/
noncomputable def Try.pinned : Pinned := { name := "ytachbhgfcdnhdaa", sum := "f69bafb9cc1406438637653af9462e5d5db8468d3014e4a7ae014d9e631461bb", checked := Try.checked }
namespace Rows
def none {H : Type} : Left H := { results := [], args := [] }

/-- 'pantrylaw05.FilterPlays': WHATEVER THE INPUT: true; the input reads as it did. -/
def filterPlaysSpec : ChangeSpec := { name := "filterPlays", fn := fun _ => fun
  | [d1, d2, d3, d4] => { results := [.lit (.bool true)], args := [d1, d2, d3, d4] }
  | _ => none }
def filterPlaysRow : OpenClaim := { program := "ytachbhgfcdnhdaa", sum := "f69bafb9cc1406438637653af9462e5d5db8468d3014e4a7ae014d9e631461bb", func := "pantry/pantrylaw05.FilterPlays", spec := "filterPlays", apart := false }
def FilterPlaysSaid : Prop := filterPlaysRow.holds Try.pinned (OpenSpec.ofChange filterPlaysSpec)

/-- ITS FALSE NEIGHBOUR: 'it returns false'. Refute it at one input. -/
def filterPlaysWrong : ChangeSpec := { name := "filterPlays", fn := fun _ => fun
  | [d1, d2, d3, d4] => { results := [.lit (.bool false)], args := [d1, d2, d3, d4] }
  | _ => none }
def FilterPlaysWrongFalsely : Prop := filterPlaysRow.holds Try.pinned (OpenSpec.ofChange filterPlaysWrong)

/-- 'pantrylaw05.FilterCounts': WHATEVER THE INPUT: true; the input reads as it did. -/
def filterCountsSpec : ChangeSpec := { name := "filterCounts", fn := fun _ => fun
  | [d1, d2, d3] => { results := [.lit (.bool true)], args := [d1, d2, d3] }
  | _ => none }
def filterCountsRow : OpenClaim := { program := "ytachbhgfcdnhdaa", sum := "f69bafb9cc1406438637653af9462e5d5db8468d3014e4a7ae014d9e631461bb", func := "pantry/pantrylaw05.FilterCounts", spec := "filterCounts", apart := false }
def FilterCountsSaid : Prop := filterCountsRow.holds Try.pinned (OpenSpec.ofChange filterCountsSpec)

/-- ITS FALSE NEIGHBOUR: 'it returns false'. Refute it at one input. -/
def filterCountsWrong : ChangeSpec := { name := "filterCounts", fn := fun _ => fun
  | [d1, d2, d3] => { results := [.lit (.bool false)], args := [d1, d2, d3] }
  | _ => none }
def FilterCountsWrongFalsely : Prop := filterCountsRow.holds Try.pinned (OpenSpec.ofChange filterCountsWrong)

/-- 'pantrylaw05.FilterOrders': WHATEVER THE INPUT: true; the input reads as it did. -/
def filterOrdersSpec : ChangeSpec := { name := "filterOrders", fn := fun _ => fun
  | [d1, d2, d3, d4, d5] => { results := [.lit (.bool true)], args := [d1, d2, d3, d4, d5] }
  | _ => none }
def filterOrdersRow : OpenClaim := { program := "ytachbhgfcdnhdaa", sum := "f69bafb9cc1406438637653af9462e5d5db8468d3014e4a7ae014d9e631461bb", func := "pantry/pantrylaw05.FilterOrders", spec := "filterOrders", apart := false }
def FilterOrdersSaid : Prop := filterOrdersRow.holds Try.pinned (OpenSpec.ofChange filterOrdersSpec)

/-- ITS FALSE NEIGHBOUR: 'it returns false'. Refute it at one input. -/
def filterOrdersWrong : ChangeSpec := { name := "filterOrders", fn := fun _ => fun
  | [d1, d2, d3, d4, d5] => { results := [.lit (.bool false)], args := [d1, d2, d3, d4, d5] }
  | _ => none }
def FilterOrdersWrongFalsely : Prop := filterOrdersRow.holds Try.pinned (OpenSpec.ofChange filterOrdersWrong)

/-- 'pantrylaw05.FilterAlone': WHATEVER THE INPUT: true; the input reads as it did. -/
def filterAloneSpec : ChangeSpec := { name := "filterAlone", fn := fun _ => fun
  | [d1, d2, d3, d4] => { results := [.lit (.bool true)], args := [d1, d2, d3, d4] }
  | _ => none }
def filterAloneRow : OpenClaim := { program := "ytachbhgfcdnhdaa", sum := "f69bafb9cc1406438637653af9462e5d5db8468d3014e4a7ae014d9e631461bb", func := "pantry/pantrylaw05.FilterAlone", spec := "filterAlone", apart := false }
def FilterAloneSaid : Prop := filterAloneRow.holds Try.pinned (OpenSpec.ofChange filterAloneSpec)

/-- ITS FALSE NEIGHBOUR: 'it returns false'. Refute it at one input. -/
def filterAloneWrong : ChangeSpec := { name := "filterAlone", fn := fun _ => fun
  | [d1, d2, d3, d4] => { results := [.lit (.bool false)], args := [d1, d2, d3, d4] }
  | _ => none }
def FilterAloneWrongFalsely : Prop := filterAloneRow.holds Try.pinned (OpenSpec.ofChange filterAloneWrong)

/- THE SECOND FORM. 'bulk': how many values and letters a reading holds, each counted each time it is reached (what is shared counts as often as it is met; a slice's spare places count too). A statement '..UptoSaid' is the law's where the arguments, and the package variables that the reading takes, are together of bulk at most 1048576: NARROWER than '..Said'. Prove '..Said' where nothing that the law and all that it calls make is longer than what came in: it says more and counts as full. Else prove '..UptoSaid'. A law counts once. -/
mutual
def uptoBulk {H : Type} : DataW H → Nat
  | .lit (.string bytes) => bytes.length + 1
  | .lit _ => 1
  | .nil => 1
  | .ptr d => uptoBulk d + 1
  | .slice elems spare => uptoBulkAll elems + uptoBulkAll spare + 1
  | .agg parts => uptoBulkAll parts + 1
  | .iface _ d => uptoBulk d + 1
  | .map entries => uptoBulkEntries entries + 1
  | .held _ => 1
def uptoBulkAll {H : Type} : List (DataW H) → Nat
  | [] => 0
  | d :: r => uptoBulk d + uptoBulkAll r
def uptoBulkEntries {H : Type} : List (Lit × DataW H) → Nat
  | [] => 0
  | x :: r => uptoBulkEntry x + uptoBulkEntries r
def uptoBulkEntry {H : Type} : Lit × DataW H → Nat
  | (.string bytes, d) => bytes.length + uptoBulk d + 1
  | (_, d) => uptoBulk d + 1
 end
def uptoSmall : (H : Type) → List (DataW H) → Bool := fun _ ds => decide (uptoBulkAll ds ≤ 1048576)
def OpenSpec.upto (s : _root_.Go.ChangeSpec) : _root_.Go.OpenSpec := { _root_.Go.OpenSpec.ofChange s with cond := some uptoSmall }

/-- 'pantrylaw05.FilterPlays', WHERE WHAT IT READS IS OF BULK AT MOST 1048576: true; the input reads as it did. -/
def filterPlaysUptoRow : OpenClaim := { program := "ytachbhgfcdnhdaa", sum := "f69bafb9cc1406438637653af9462e5d5db8468d3014e4a7ae014d9e631461bb", func := "pantry/pantrylaw05.FilterPlays", spec := "filterPlays", apart := false, narrowed := true }
def FilterPlaysUptoSaid : Prop := filterPlaysUptoRow.holds Try.pinned (OpenSpec.upto filterPlaysSpec)

/-- 'pantrylaw05.FilterCounts', WHERE WHAT IT READS IS OF BULK AT MOST 1048576: true; the input reads as it did. -/
def filterCountsUptoRow : OpenClaim := { program := "ytachbhgfcdnhdaa", sum := "f69bafb9cc1406438637653af9462e5d5db8468d3014e4a7ae014d9e631461bb", func := "pantry/pantrylaw05.FilterCounts", spec := "filterCounts", apart := false, narrowed := true }
def FilterCountsUptoSaid : Prop := filterCountsUptoRow.holds Try.pinned (OpenSpec.upto filterCountsSpec)

/-- 'pantrylaw05.FilterOrders', WHERE WHAT IT READS IS OF BULK AT MOST 1048576: true; the input reads as it did. -/
def filterOrdersUptoRow : OpenClaim := { program := "ytachbhgfcdnhdaa", sum := "f69bafb9cc1406438637653af9462e5d5db8468d3014e4a7ae014d9e631461bb", func := "pantry/pantrylaw05.FilterOrders", spec := "filterOrders", apart := false, narrowed := true }
def FilterOrdersUptoSaid : Prop := filterOrdersUptoRow.holds Try.pinned (OpenSpec.upto filterOrdersSpec)

/-- 'pantrylaw05.FilterAlone', WHERE WHAT IT READS IS OF BULK AT MOST 1048576: true; the input reads as it did. -/
def filterAloneUptoRow : OpenClaim := { program := "ytachbhgfcdnhdaa", sum := "f69bafb9cc1406438637653af9462e5d5db8468d3014e4a7ae014d9e631461bb", func := "pantry/pantrylaw05.FilterAlone", spec := "filterAlone", apart := false, narrowed := true }
def FilterAloneUptoSaid : Prop := filterAloneUptoRow.holds Try.pinned (OpenSpec.upto filterAloneSpec)

end Rows
end Go.Proofs.Ytachbhgfcdnhdaa
