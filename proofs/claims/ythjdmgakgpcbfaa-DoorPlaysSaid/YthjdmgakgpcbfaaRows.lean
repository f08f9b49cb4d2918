/-
  No cell of these rows narrows 'for every input' (looked for: loops, veiled, ifaces, maps, wideKeys, modest, calm, conditions, laid).
  DERIVED. THE GIVEN ROWS OF THIS SEAT. 4 by the template 'for every input the law returns true; each argument reads behind the call as it read before'; 0 by the template 'total and deterministic' (their statements: YthjdmgakgpcbfaaTotals.lean).
  GIVEN WITH THE SEED: the statements are not yours to turn. If you find one false, say at which input.
  Laid BY PROGRAM, IN A SANDBOX (cutbox-rows.mjs): the forced cells as the released guide's own fill.sh prints them over the translation a36564817e01358b… (all of the seat's roots in one cut). By AI agents, Wed Nov 11 2026. No macro, syntax, notation, axiom, sorry.
-/
import Derived.Test.YthjdmgakgpcbfaaChecked
import GoSem.Claim
import GoSem.ClaimJoined
import GoSem.ClaimMapViews
import Derived.JoinedTies
import Derived.KernelRfl
namespace Go.Proofs.Ythjdmgakgpcbfaa
/- THE CELL 'sum', in the pinned program and in every row, IS THE sha256 OF THE DUMP (.gsa) THAT YthjdmgakgpcbfaaProg.lean LOADS. Nothing in Lean hashes anything: it is a label: what it is worth is what the hold of that sum in a sandbox is worth. -/
noncomputable def Try.pinned : Pinned := { name := "ythjdmgakgpcbfaa", sum := "a36564817e01358bf5e195d3976c1492b530920c91e12956d41f54f070013405", checked := Try.checked }
namespace Rows
def none {H : Type} : Left H := { results := [], args := [] }

/-- 'pantrylaw04.DoorPlays': WHATEVER THE INPUT: true; the input reads as it did. -/
def doorPlaysSpec : ChangeSpec := { name := "doorPlays", fn := fun _ => fun
  | [d1, d2, d3] => { results := [.lit (.bool true)], args := [d1, d2, d3] }
  | _ => none }
def doorPlaysRow : OpenClaim := { program := "ythjdmgakgpcbfaa", sum := "a36564817e01358bf5e195d3976c1492b530920c91e12956d41f54f070013405", func := "pantry/pantrylaw04.DoorPlays", spec := "doorPlays", apart := false }
def DoorPlaysSaid : Prop := doorPlaysRow.holds Try.pinned (OpenSpec.ofChange doorPlaysSpec)

/-- ITS FALSE NEIGHBOUR: 'it returns false'. Refute it at one input. -/
def doorPlaysWrong : ChangeSpec := { name := "doorPlays", fn := fun _ => fun
  | [d1, d2, d3] => { results := [.lit (.bool false)], args := [d1, d2, d3] }
  | _ => none }
def DoorPlaysWrongFalsely : Prop := doorPlaysRow.holds Try.pinned (OpenSpec.ofChange doorPlaysWrong)

/-- 'pantrylaw04.DoorHolds': WHATEVER THE INPUT: true; the input reads as it did. -/
def doorHoldsSpec : ChangeSpec := { name := "doorHolds", fn := fun _ => fun
  | [d1, d2] => { results := [.lit (.bool true)], args := [d1, d2] }
  | _ => none }
def doorHoldsRow : OpenClaim := { program := "ythjdmgakgpcbfaa", sum := "a36564817e01358bf5e195d3976c1492b530920c91e12956d41f54f070013405", func := "pantry/pantrylaw04.DoorHolds", spec := "doorHolds", apart := false }
def DoorHoldsSaid : Prop := doorHoldsRow.holds Try.pinned (OpenSpec.ofChange doorHoldsSpec)

/-- ITS FALSE NEIGHBOUR: 'it returns false'. Refute it at one input. -/
def doorHoldsWrong : ChangeSpec := { name := "doorHolds", fn := fun _ => fun
  | [d1, d2] => { results := [.lit (.bool false)], args := [d1, d2] }
  | _ => none }
def DoorHoldsWrongFalsely : Prop := doorHoldsRow.holds Try.pinned (OpenSpec.ofChange doorHoldsWrong)

/-- 'pantrylaw04.DoorOrder': WHATEVER THE INPUT: true; the input reads as it did. -/
def doorOrderSpec : ChangeSpec := { name := "doorOrder", fn := fun _ => fun
  | [d1, d2, d3, d4] => { results := [.lit (.bool true)], args := [d1, d2, d3, d4] }
  | _ => none }
def doorOrderRow : OpenClaim := { program := "ythjdmgakgpcbfaa", sum := "a36564817e01358bf5e195d3976c1492b530920c91e12956d41f54f070013405", func := "pantry/pantrylaw04.DoorOrder", spec := "doorOrder", apart := false }
def DoorOrderSaid : Prop := doorOrderRow.holds Try.pinned (OpenSpec.ofChange doorOrderSpec)

/-- ITS FALSE NEIGHBOUR: 'it returns false'. Refute it at one input. -/
def doorOrderWrong : ChangeSpec := { name := "doorOrder", fn := fun _ => fun
  | [d1, d2, d3, d4] => { results := [.lit (.bool false)], args := [d1, d2, d3, d4] }
  | _ => none }
def DoorOrderWrongFalsely : Prop := doorOrderRow.holds Try.pinned (OpenSpec.ofChange doorOrderWrong)

/-- 'pantrylaw04.DoorCounts': WHATEVER THE INPUT: true; the input reads as it did. -/
def doorCountsSpec : ChangeSpec := { name := "doorCounts", fn := fun _ => fun
  | [d1, d2, d3] => { results := [.lit (.bool true)], args := [d1, d2, d3] }
  | _ => none }
def doorCountsRow : OpenClaim := { program := "ythjdmgakgpcbfaa", sum := "a36564817e01358bf5e195d3976c1492b530920c91e12956d41f54f070013405", func := "pantry/pantrylaw04.DoorCounts", spec := "doorCounts", apart := false }
def DoorCountsSaid : Prop := doorCountsRow.holds Try.pinned (OpenSpec.ofChange doorCountsSpec)

/-- ITS FALSE NEIGHBOUR: 'it returns false'. Refute it at one input. -/
def doorCountsWrong : ChangeSpec := { name := "doorCounts", fn := fun _ => fun
  | [d1, d2, d3] => { results := [.lit (.bool false)], args := [d1, d2, d3] }
  | _ => none }
def DoorCountsWrongFalsely : Prop := doorCountsRow.holds Try.pinned (OpenSpec.ofChange doorCountsWrong)

/- THE SECOND FORM. 'bulk': how many values and letters a reading holds, each counted each time it is reached (what is shared counts as often as it is met; a slice's spare places count too). A statement '..UptoSaid' is the law's where the arguments, and the package variables that the reading takes, are together of bulk at most 1048576: NARROWER than '..Said'. Prove '..Said' where nothing that the law and all that it calls make is longer than what came in: it says more and counts as full. Else prove '..UptoSaid'. A law counts once. -/
mutual
def uptoBulk {H : Type} : DataW H → Nat
  | .lit (.string bytes) => bytes.length + 1
  | .lit _ => 1
  | .nil => 1
  | .ptr d => uptoBulk d + 1
  | .slice elems spare => uptoBulkAll elems + uptoBulkAll spare + 1
  | .agg parts => uptoBulkAll parts + 1
  | .iface _ d => uptoBulk d + 1
  | .map entries => uptoBulkEntries entries + 1
  | .held _ => 1
def uptoBulkAll {H : Type} : List (DataW H) → Nat
  | [] => 0
  | d :: r => uptoBulk d + uptoBulkAll r
def uptoBulkEntries {H : Type} : List (Lit × DataW H) → Nat
  | [] => 0
  | x :: r => uptoBulkEntry x + uptoBulkEntries r
def uptoBulkEntry {H : Type} : Lit × DataW H → Nat
  | (.string bytes, d) => bytes.length + uptoBulk d + 1
  | (_, d) => uptoBulk d + 1
 end
def uptoSmall : (H : Type) → List (DataW H) → Bool := fun _ ds => decide (uptoBulkAll ds ≤ 1048576)
def OpenSpec.upto (s : _root_.Go.ChangeSpec) : _root_.Go.OpenSpec := { _root_.Go.OpenSpec.ofChange s with cond := some uptoSmall }

/-- 'pantrylaw04.DoorPlays', WHERE WHAT IT READS IS OF BULK AT MOST 1048576: true; the input reads as it did. -/
def doorPlaysUptoRow : OpenClaim := { program := "ythjdmgakgpcbfaa", sum := "a36564817e01358bf5e195d3976c1492b530920c91e12956d41f54f070013405", func := "pantry/pantrylaw04.DoorPlays", spec := "doorPlays", apart := false, narrowed := true }
def DoorPlaysUptoSaid : Prop := doorPlaysUptoRow.holds Try.pinned (OpenSpec.upto doorPlaysSpec)

/-- 'pantrylaw04.DoorHolds', WHERE WHAT IT READS IS OF BULK AT MOST 1048576: true; the input reads as it did. -/
def doorHoldsUptoRow : OpenClaim := { program := "ythjdmgakgpcbfaa", sum := "a36564817e01358bf5e195d3976c1492b530920c91e12956d41f54f070013405", func := "pantry/pantrylaw04.DoorHolds", spec := "doorHolds", apart := false, narrowed := true }
def DoorHoldsUptoSaid : Prop := doorHoldsUptoRow.holds Try.pinned (OpenSpec.upto doorHoldsSpec)

/-- 'pantrylaw04.DoorOrder', WHERE WHAT IT READS IS OF BULK AT MOST 1048576: true; the input reads as it did. -/
def doorOrderUptoRow : OpenClaim := { program := "ythjdmgakgpcbfaa", sum := "a36564817e01358bf5e195d3976c1492b530920c91e12956d41f54f070013405", func := "pantry/pantrylaw04.DoorOrder", spec := "doorOrder", apart := false, narrowed := true }
def DoorOrderUptoSaid : Prop := doorOrderUptoRow.holds Try.pinned (OpenSpec.upto doorOrderSpec)

/-- 'pantrylaw04.DoorCounts', WHERE WHAT IT READS IS OF BULK AT MOST 1048576: true; the input reads as it did. -/
def doorCountsUptoRow : OpenClaim := { program := "ythjdmgakgpcbfaa", sum := "a36564817e01358bf5e195d3976c1492b530920c91e12956d41f54f070013405", func := "pantry/pantrylaw04.DoorCounts", spec := "doorCounts", apart := false, narrowed := true }
def DoorCountsUptoSaid : Prop := doorCountsUptoRow.holds Try.pinned (OpenSpec.upto doorCountsSpec)

end Rows
end Go.Proofs.Ythjdmgakgpcbfaa
