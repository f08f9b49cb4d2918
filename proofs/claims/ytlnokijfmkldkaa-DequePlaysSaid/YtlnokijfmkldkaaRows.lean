/-
  No cell of these rows narrows 'for every input' (looked for: loops, veiled, ifaces, maps, wideKeys, modest, calm, conditions, laid).
  DERIVED. THE GIVEN ROWS OF THIS SEAT. 5 by the template 'for every input the law returns true; each argument reads behind the call as it read before'; 0 by the template 'total and deterministic' (their statements: YtlnokijfmkldkaaTotals.lean).
  GIVEN WITH THE SEED: the statements are not yours to turn. If you find one false, say at which input.
  Laid BY PROGRAM, IN A SANDBOX (cutbox-rows.mjs): the forced cells as the released guide's own fill.sh prints them over the translation 4f93980e57b81466… (all of the seat's roots in one cut). By AI agents, Wed Nov 11 2026. No macro, syntax, notation, axiom, sorry.
-/
import Derived.Test.YtlnokijfmkldkaaChecked
import GoSem.Claim
import GoSem.ClaimJoined
import GoSem.ClaimMapViews
import Derived.JoinedTies
import Derived.KernelRfl
namespace Go.Proofs.Ytlnokijfmkldkaa
/- THE CELL 'sum', in the pinned program and in every row, IS THE sha256 OF THE DUMP (.gsa) THAT YtlnokijfmkldkaaProg.lean LOADS. Nothing in Lean hashes anything: it is a label: what it is worth is what the hold of that sum in a sandbox is worth. -/
noncomputable def Try.pinned : Pinned := { name := "ytlnokijfmkldkaa", sum := "4f93980e57b81466039ece731a1ece04208f37a8ccd33b2d017c5e37659586de", checked := Try.checked }
namespace Rows
def none {H : Type} : Left H := { results := [], args := [] }

/-- 'pantrylaw07.DequeQueue': WHATEVER THE INPUT: true; the input reads as it did. -/
def dequeQueueSpec : ChangeSpec := { name := "dequeQueue", fn := fun _ => fun
  | [d] => { results := [.lit (.bool true)], args := [d] }
  | _ => none }
def dequeQueueRow : OpenClaim := { program := "ytlnokijfmkldkaa", sum := "4f93980e57b81466039ece731a1ece04208f37a8ccd33b2d017c5e37659586de", func := "pantry/pantrylaw07.DequeQueue", spec := "dequeQueue", apart := false }
def DequeQueueSaid : Prop := dequeQueueRow.holds Try.pinned (OpenSpec.ofChange dequeQueueSpec)

/-- ITS FALSE NEIGHBOUR: 'it returns false'. Refute it at one input. -/
def dequeQueueWrong : ChangeSpec := { name := "dequeQueue", fn := fun _ => fun
  | [d] => { results := [.lit (.bool false)], args := [d] }
  | _ => none }
def DequeQueueWrongFalsely : Prop := dequeQueueRow.holds Try.pinned (OpenSpec.ofChange dequeQueueWrong)

/-- 'pantrylaw07.DequeMoves': WHATEVER THE INPUT: true; the input reads as it did. -/
def dequeMovesSpec : ChangeSpec := { name := "dequeMoves", fn := fun _ => fun
  | [d1, d2] => { results := [.lit (.bool true)], args := [d1, d2] }
  | _ => none }
def dequeMovesRow : OpenClaim := { program := "ytlnokijfmkldkaa", sum := "4f93980e57b81466039ece731a1ece04208f37a8ccd33b2d017c5e37659586de", func := "pantry/pantrylaw07.DequeMoves", spec := "dequeMoves", apart := false }
def DequeMovesSaid : Prop := dequeMovesRow.holds Try.pinned (OpenSpec.ofChange dequeMovesSpec)

/-- ITS FALSE NEIGHBOUR: 'it returns false'. Refute it at one input. -/
def dequeMovesWrong : ChangeSpec := { name := "dequeMoves", fn := fun _ => fun
  | [d1, d2] => { results := [.lit (.bool false)], args := [d1, d2] }
  | _ => none }
def DequeMovesWrongFalsely : Prop := dequeMovesRow.holds Try.pinned (OpenSpec.ofChange dequeMovesWrong)

/-- 'pantrylaw07.DequeUndo': WHATEVER THE INPUT: true; the input reads as it did. -/
def dequeUndoSpec : ChangeSpec := { name := "dequeUndo", fn := fun _ => fun
  | [d1, d2, d3] => { results := [.lit (.bool true)], args := [d1, d2, d3] }
  | _ => none }
def dequeUndoRow : OpenClaim := { program := "ytlnokijfmkldkaa", sum := "4f93980e57b81466039ece731a1ece04208f37a8ccd33b2d017c5e37659586de", func := "pantry/pantrylaw07.DequeUndo", spec := "dequeUndo", unfollowed := true, recurses := true, apart := false }
def DequeUndoSaid : Prop := dequeUndoRow.holds Try.pinned (OpenSpec.ofChange dequeUndoSpec)

/-- ITS FALSE NEIGHBOUR: 'it returns false'. Refute it at one input. -/
def dequeUndoWrong : ChangeSpec := { name := "dequeUndo", fn := fun _ => fun
  | [d1, d2, d3] => { results := [.lit (.bool false)], args := [d1, d2, d3] }
  | _ => none }
def DequeUndoWrongFalsely : Prop := dequeUndoRow.holds Try.pinned (OpenSpec.ofChange dequeUndoWrong)

/-- 'pantrylaw07.DequePlays': WHATEVER THE INPUT: true; the input reads as it did. -/
def dequePlaysSpec : ChangeSpec := { name := "dequePlays", fn := fun _ => fun
  | [d1, d2] => { results := [.lit (.bool true)], args := [d1, d2] }
  | _ => none }
def dequePlaysRow : OpenClaim := { program := "ytlnokijfmkldkaa", sum := "4f93980e57b81466039ece731a1ece04208f37a8ccd33b2d017c5e37659586de", func := "pantry/pantrylaw07.DequePlays", spec := "dequePlays", unfollowed := true, recurses := true, apart := false }
def DequePlaysSaid : Prop := dequePlaysRow.holds Try.pinned (OpenSpec.ofChange dequePlaysSpec)

/-- ITS FALSE NEIGHBOUR: 'it returns false'. Refute it at one input. -/
def dequePlaysWrong : ChangeSpec := { name := "dequePlays", fn := fun _ => fun
  | [d1, d2] => { results := [.lit (.bool false)], args := [d1, d2] }
  | _ => none }
def DequePlaysWrongFalsely : Prop := dequePlaysRow.holds Try.pinned (OpenSpec.ofChange dequePlaysWrong)

/-- 'pantrylaw07.DequeSums': WHATEVER THE INPUT: true; the input reads as it did. -/
def dequeSumsSpec : ChangeSpec := { name := "dequeSums", fn := fun _ => fun
  | [d] => { results := [.lit (.bool true)], args := [d] }
  | _ => none }
def dequeSumsRow : OpenClaim := { program := "ytlnokijfmkldkaa", sum := "4f93980e57b81466039ece731a1ece04208f37a8ccd33b2d017c5e37659586de", func := "pantry/pantrylaw07.DequeSums", spec := "dequeSums", unfollowed := true, recurses := true, apart := false }
def DequeSumsSaid : Prop := dequeSumsRow.holds Try.pinned (OpenSpec.ofChange dequeSumsSpec)

/-- ITS FALSE NEIGHBOUR: 'it returns false'. Refute it at one input. -/
def dequeSumsWrong : ChangeSpec := { name := "dequeSums", fn := fun _ => fun
  | [d] => { results := [.lit (.bool false)], args := [d] }
  | _ => none }
def DequeSumsWrongFalsely : Prop := dequeSumsRow.holds Try.pinned (OpenSpec.ofChange dequeSumsWrong)

/- THE SECOND FORM. 'bulk': how many values and letters a reading holds, each counted each time it is reached (what is shared counts as often as it is met; a slice's spare places count too). A statement '..UptoSaid' is the law's where the arguments, and the package variables that the reading takes, are together of bulk at most 1048576: NARROWER than '..Said'. Prove '..Said' where nothing that the law and all that it calls make is longer than what came in: it says more and counts as full. Else prove '..UptoSaid'. A law counts once. -/
mutual
def uptoBulk {H : Type} : DataW H → Nat
  | .lit (.string bytes) => bytes.length + 1
  | .lit _ => 1
  | .nil => 1
  | .ptr d => uptoBulk d + 1
  | .slice elems spare => uptoBulkAll elems + uptoBulkAll spare + 1
  | .agg parts => uptoBulkAll parts + 1
  | .iface _ d => uptoBulk d + 1
  | .map entries => uptoBulkEntries entries + 1
  | .held _ => 1
def uptoBulkAll {H : Type} : List (DataW H) → Nat
  | [] => 0
  | d :: r => uptoBulk d + uptoBulkAll r
def uptoBulkEntries {H : Type} : List (Lit × DataW H) → Nat
  | [] => 0
  | x :: r => uptoBulkEntry x + uptoBulkEntries r
def uptoBulkEntry {H : Type} : Lit × DataW H → Nat
  | (.string bytes, d) => bytes.length + uptoBulk d + 1
  | (_, d) => uptoBulk d + 1
 end
def uptoSmall : (H : Type) → List (DataW H) → Bool := fun _ ds => decide (uptoBulkAll ds ≤ 1048576)
def OpenSpec.upto (s : _root_.Go.ChangeSpec) : _root_.Go.OpenSpec := { _root_.Go.OpenSpec.ofChange s with cond := some uptoSmall }

/-- 'pantrylaw07.DequeQueue', WHERE WHAT IT READS IS OF BULK AT MOST 1048576: true; the input reads as it did. -/
def dequeQueueUptoRow : OpenClaim := { program := "ytlnokijfmkldkaa", sum := "4f93980e57b81466039ece731a1ece04208f37a8ccd33b2d017c5e37659586de", func := "pantry/pantrylaw07.DequeQueue", spec := "dequeQueue", apart := false, narrowed := true }
def DequeQueueUptoSaid : Prop := dequeQueueUptoRow.holds Try.pinned (OpenSpec.upto dequeQueueSpec)

/-- 'pantrylaw07.DequeMoves', WHERE WHAT IT READS IS OF BULK AT MOST 1048576: true; the input reads as it did. -/
def dequeMovesUptoRow : OpenClaim := { program := "ytlnokijfmkldkaa", sum := "4f93980e57b81466039ece731a1ece04208f37a8ccd33b2d017c5e37659586de", func := "pantry/pantrylaw07.DequeMoves", spec := "dequeMoves", apart := false, narrowed := true }
def DequeMovesUptoSaid : Prop := dequeMovesUptoRow.holds Try.pinned (OpenSpec.upto dequeMovesSpec)

/-- 'pantrylaw07.DequeUndo', WHERE WHAT IT READS IS OF BULK AT MOST 1048576: true; the input reads as it did. -/
def dequeUndoUptoRow : OpenClaim := { program := "ytlnokijfmkldkaa", sum := "4f93980e57b81466039ece731a1ece04208f37a8ccd33b2d017c5e37659586de", func := "pantry/pantrylaw07.DequeUndo", spec := "dequeUndo", unfollowed := true, recurses := true, apart := false, narrowed := true }
def DequeUndoUptoSaid : Prop := dequeUndoUptoRow.holds Try.pinned (OpenSpec.upto dequeUndoSpec)

/-- 'pantrylaw07.DequePlays', WHERE WHAT IT READS IS OF BULK AT MOST 1048576: true; the input reads as it did. -/
def dequePlaysUptoRow : OpenClaim := { program := "ytlnokijfmkldkaa", sum := "4f93980e57b81466039ece731a1ece04208f37a8ccd33b2d017c5e37659586de", func := "pantry/pantrylaw07.DequePlays", spec := "dequePlays", unfollowed := true, recurses := true, apart := false, narrowed := true }
def DequePlaysUptoSaid : Prop := dequePlaysUptoRow.holds Try.pinned (OpenSpec.upto dequePlaysSpec)

/-- 'pantrylaw07.DequeSums', WHERE WHAT IT READS IS OF BULK AT MOST 1048576: true; the input reads as it did. -/
def dequeSumsUptoRow : OpenClaim := { program := "ytlnokijfmkldkaa", sum := "4f93980e57b81466039ece731a1ece04208f37a8ccd33b2d017c5e37659586de", func := "pantry/pantrylaw07.DequeSums", spec := "dequeSums", unfollowed := true, recurses := true, apart := false, narrowed := true }
def DequeSumsUptoSaid : Prop := dequeSumsUptoRow.holds Try.pinned (OpenSpec.upto dequeSumsSpec)

end Rows
end Go.Proofs.Ytlnokijfmkldkaa
