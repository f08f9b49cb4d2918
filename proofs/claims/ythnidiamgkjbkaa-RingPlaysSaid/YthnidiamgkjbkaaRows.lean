/-
  No cell of these rows narrows 'for every input' (looked for: loops, veiled, ifaces, maps, wideKeys, modest, calm, conditions, laid).
  DERIVED. THE GIVEN ROWS OF THIS SEAT. 5 by the template 'for every input the law returns true; each argument reads behind the call as it read before'; 0 by the template 'total and deterministic' (their statements: YthnidiamgkjbkaaTotals.lean).
  GIVEN WITH THE SEED: the statements are not yours to turn. If you find one false, say at which input.
  Laid BY PROGRAM, IN A SANDBOX (cutbox-rows.mjs): the forced cells as the released guide's own fill.sh prints them over the translation d76308cecbe5e6cd… (all of the seat's roots in one cut). By AI agents, Wed Nov 11 2026. No macro, syntax, notation, axiom, sorry.
-/
import Derived.Test.YthnidiamgkjbkaaChecked
import GoSem.Claim
import GoSem.ClaimJoined
import GoSem.ClaimMapViews
import Derived.JoinedTies
import Derived.KernelRfl
namespace Go.Proofs.Ythnidiamgkjbkaa
/- THE CELL 'sum', in the pinned program and in every row, IS THE sha256 OF THE DUMP (.gsa) THAT YthnidiamgkjbkaaProg.lean LOADS. Nothing in Lean hashes anything: it is a label: what it is worth is what the hold of that sum in a sandbox is worth. -/
noncomputable def Try.pinned : Pinned := { name := "ythnidiamgkjbkaa", sum := "d76308cecbe5e6cdc00aeb1fb52c153907de78a8eac56b384a0de89d7c66a005", checked := Try.checked }
namespace Rows
def none {H : Type} : Left H := { results := [], args := [] }

/-- 'pantrylaw12.RingPlays': WHATEVER THE INPUT: true; the input reads as it did. -/
def ringPlaysSpec : ChangeSpec := { name := "ringPlays", fn := fun _ => fun
  | [d1, d2] => { results := [.lit (.bool true)], args := [d1, d2] }
  | _ => none }
def ringPlaysRow : OpenClaim := { program := "ythnidiamgkjbkaa", sum := "d76308cecbe5e6cdc00aeb1fb52c153907de78a8eac56b384a0de89d7c66a005", func := "pantry/pantrylaw12.RingPlays", spec := "ringPlays", apart := false }
def RingPlaysSaid : Prop := ringPlaysRow.holds Try.pinned (OpenSpec.ofChange ringPlaysSpec)

/-- ITS FALSE NEIGHBOUR: 'it returns false'. Refute it at one input. -/
def ringPlaysWrong : ChangeSpec := { name := "ringPlays", fn := fun _ => fun
  | [d1, d2] => { results := [.lit (.bool false)], args := [d1, d2] }
  | _ => none }
def RingPlaysWrongFalsely : Prop := ringPlaysRow.holds Try.pinned (OpenSpec.ofChange ringPlaysWrong)

/-- 'pantrylaw12.RingOrder': WHATEVER THE INPUT: true; the input reads as it did. -/
def ringOrderSpec : ChangeSpec := { name := "ringOrder", fn := fun _ => fun
  | [d1, d2] => { results := [.lit (.bool true)], args := [d1, d2] }
  | _ => none }
def ringOrderRow : OpenClaim := { program := "ythnidiamgkjbkaa", sum := "d76308cecbe5e6cdc00aeb1fb52c153907de78a8eac56b384a0de89d7c66a005", func := "pantry/pantrylaw12.RingOrder", spec := "ringOrder", apart := false }
def RingOrderSaid : Prop := ringOrderRow.holds Try.pinned (OpenSpec.ofChange ringOrderSpec)

/-- ITS FALSE NEIGHBOUR: 'it returns false'. Refute it at one input. -/
def ringOrderWrong : ChangeSpec := { name := "ringOrder", fn := fun _ => fun
  | [d1, d2] => { results := [.lit (.bool false)], args := [d1, d2] }
  | _ => none }
def RingOrderWrongFalsely : Prop := ringOrderRow.holds Try.pinned (OpenSpec.ofChange ringOrderWrong)

/-- 'pantrylaw12.RingFills': WHATEVER THE INPUT: true; the input reads as it did. -/
def ringFillsSpec : ChangeSpec := { name := "ringFills", fn := fun _ => fun
  | [d1, d2] => { results := [.lit (.bool true)], args := [d1, d2] }
  | _ => none }
def ringFillsRow : OpenClaim := { program := "ythnidiamgkjbkaa", sum := "d76308cecbe5e6cdc00aeb1fb52c153907de78a8eac56b384a0de89d7c66a005", func := "pantry/pantrylaw12.RingFills", spec := "ringFills", apart := false }
def RingFillsSaid : Prop := ringFillsRow.holds Try.pinned (OpenSpec.ofChange ringFillsSpec)

/-- ITS FALSE NEIGHBOUR: 'it returns false'. Refute it at one input. -/
def ringFillsWrong : ChangeSpec := { name := "ringFills", fn := fun _ => fun
  | [d1, d2] => { results := [.lit (.bool false)], args := [d1, d2] }
  | _ => none }
def RingFillsWrongFalsely : Prop := ringFillsRow.holds Try.pinned (OpenSpec.ofChange ringFillsWrong)

/-- 'pantrylaw12.RingDrains': WHATEVER THE INPUT: true; the input reads as it did. -/
def ringDrainsSpec : ChangeSpec := { name := "ringDrains", fn := fun _ => fun
  | [d1, d2] => { results := [.lit (.bool true)], args := [d1, d2] }
  | _ => none }
def ringDrainsRow : OpenClaim := { program := "ythnidiamgkjbkaa", sum := "d76308cecbe5e6cdc00aeb1fb52c153907de78a8eac56b384a0de89d7c66a005", func := "pantry/pantrylaw12.RingDrains", spec := "ringDrains", apart := false }
def RingDrainsSaid : Prop := ringDrainsRow.holds Try.pinned (OpenSpec.ofChange ringDrainsSpec)

/-- ITS FALSE NEIGHBOUR: 'it returns false'. Refute it at one input. -/
def ringDrainsWrong : ChangeSpec := { name := "ringDrains", fn := fun _ => fun
  | [d1, d2] => { results := [.lit (.bool false)], args := [d1, d2] }
  | _ => none }
def RingDrainsWrongFalsely : Prop := ringDrainsRow.holds Try.pinned (OpenSpec.ofChange ringDrainsWrong)

/-- 'pantrylaw12.RingSizes': WHATEVER THE INPUT: true; the input reads as it did. -/
def ringSizesSpec : ChangeSpec := { name := "ringSizes", fn := fun _ => fun
  | [d] => { results := [.lit (.bool true)], args := [d] }
  | _ => none }
def ringSizesRow : OpenClaim := { program := "ythnidiamgkjbkaa", sum := "d76308cecbe5e6cdc00aeb1fb52c153907de78a8eac56b384a0de89d7c66a005", func := "pantry/pantrylaw12.RingSizes", spec := "ringSizes", apart := false }
def RingSizesSaid : Prop := ringSizesRow.holds Try.pinned (OpenSpec.ofChange ringSizesSpec)

/-- ITS FALSE NEIGHBOUR: 'it returns false'. Refute it at one input. -/
def ringSizesWrong : ChangeSpec := { name := "ringSizes", fn := fun _ => fun
  | [d] => { results := [.lit (.bool false)], args := [d] }
  | _ => none }
def RingSizesWrongFalsely : Prop := ringSizesRow.holds Try.pinned (OpenSpec.ofChange ringSizesWrong)

/- THE SECOND FORM. 'bulk': how many values and letters a reading holds, each counted each time it is reached (what is shared counts as often as it is met; a slice's spare places count too). A statement '..UptoSaid' is the law's where the arguments, and the package variables that the reading takes, are together of bulk at most 1048576: NARROWER than '..Said'. Prove '..Said' where nothing that the law and all that it calls make is longer than what came in: it says more and counts as full. Else prove '..UptoSaid'. A law counts once. -/
mutual
def uptoBulk {H : Type} : DataW H → Nat
  | .lit (.string bytes) => bytes.length + 1
  | .lit _ => 1
  | .nil => 1
  | .ptr d => uptoBulk d + 1
  | .slice elems spare => uptoBulkAll elems + uptoBulkAll spare + 1
  | .agg parts => uptoBulkAll parts + 1
  | .iface _ d => uptoBulk d + 1
  | .map entries => uptoBulkEntries entries + 1
  | .held _ => 1
def uptoBulkAll {H : Type} : List (DataW H) → Nat
  | [] => 0
  | d :: r => uptoBulk d + uptoBulkAll r
def uptoBulkEntries {H : Type} : List (Lit × DataW H) → Nat
  | [] => 0
  | x :: r => uptoBulkEntry x + uptoBulkEntries r
def uptoBulkEntry {H : Type} : Lit × DataW H → Nat
  | (.string bytes, d) => bytes.length + uptoBulk d + 1
  | (_, d) => uptoBulk d + 1
 end
def uptoSmall : (H : Type) → List (DataW H) → Bool := fun _ ds => decide (uptoBulkAll ds ≤ 1048576)
def OpenSpec.upto (s : _root_.Go.ChangeSpec) : _root_.Go.OpenSpec := { _root_.Go.OpenSpec.ofChange s with cond := some uptoSmall }

/-- 'pantrylaw12.RingPlays', WHERE WHAT IT READS IS OF BULK AT MOST 1048576: true; the input reads as it did. -/
def ringPlaysUptoRow : OpenClaim := { program := "ythnidiamgkjbkaa", sum := "d76308cecbe5e6cdc00aeb1fb52c153907de78a8eac56b384a0de89d7c66a005", func := "pantry/pantrylaw12.RingPlays", spec := "ringPlays", apart := false, narrowed := true }
def RingPlaysUptoSaid : Prop := ringPlaysUptoRow.holds Try.pinned (OpenSpec.upto ringPlaysSpec)

/-- 'pantrylaw12.RingOrder', WHERE WHAT IT READS IS OF BULK AT MOST 1048576: true; the input reads as it did. -/
def ringOrderUptoRow : OpenClaim := { program := "ythnidiamgkjbkaa", sum := "d76308cecbe5e6cdc00aeb1fb52c153907de78a8eac56b384a0de89d7c66a005", func := "pantry/pantrylaw12.RingOrder", spec := "ringOrder", apart := false, narrowed := true }
def RingOrderUptoSaid : Prop := ringOrderUptoRow.holds Try.pinned (OpenSpec.upto ringOrderSpec)

/-- 'pantrylaw12.RingFills', WHERE WHAT IT READS IS OF BULK AT MOST 1048576: true; the input reads as it did. -/
def ringFillsUptoRow : OpenClaim := { program := "ythnidiamgkjbkaa", sum := "d76308cecbe5e6cdc00aeb1fb52c153907de78a8eac56b384a0de89d7c66a005", func := "pantry/pantrylaw12.RingFills", spec := "ringFills", apart := false, narrowed := true }
def RingFillsUptoSaid : Prop := ringFillsUptoRow.holds Try.pinned (OpenSpec.upto ringFillsSpec)

/-- 'pantrylaw12.RingDrains', WHERE WHAT IT READS IS OF BULK AT MOST 1048576: true; the input reads as it did. -/
def ringDrainsUptoRow : OpenClaim := { program := "ythnidiamgkjbkaa", sum := "d76308cecbe5e6cdc00aeb1fb52c153907de78a8eac56b384a0de89d7c66a005", func := "pantry/pantrylaw12.RingDrains", spec := "ringDrains", apart := false, narrowed := true }
def RingDrainsUptoSaid : Prop := ringDrainsUptoRow.holds Try.pinned (OpenSpec.upto ringDrainsSpec)

/-- 'pantrylaw12.RingSizes', WHERE WHAT IT READS IS OF BULK AT MOST 1048576: true; the input reads as it did. -/
def ringSizesUptoRow : OpenClaim := { program := "ythnidiamgkjbkaa", sum := "d76308cecbe5e6cdc00aeb1fb52c153907de78a8eac56b384a0de89d7c66a005", func := "pantry/pantrylaw12.RingSizes", spec := "ringSizes", apart := false, narrowed := true }
def RingSizesUptoSaid : Prop := ringSizesUptoRow.holds Try.pinned (OpenSpec.upto ringSizesSpec)

end Rows
end Go.Proofs.Ythnidiamgkjbkaa
