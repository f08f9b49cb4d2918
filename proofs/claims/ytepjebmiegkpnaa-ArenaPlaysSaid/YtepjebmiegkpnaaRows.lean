/-
  No cell of these rows narrows 'for every input' (looked for: loops, veiled, ifaces, maps, wideKeys, modest, calm, conditions, laid).
  DERIVED. THE GIVEN ROWS OF THIS SEAT. 5 by the template 'for every input the law returns true; each argument reads behind the call as it read before'; 0 by the template 'total and deterministic' (their statements: YtepjebmiegkpnaaTotals.lean).
  GIVEN WITH THE SEED: the statements are not yours to turn. If you find one false, say at which input.
  Laid BY PROGRAM, IN A SANDBOX (cutbox-rows.mjs): the forced cells as the released guide's own fill.sh prints them over the translation 32dd06c1238b58b2… (all of the seat's roots in one cut). By AI agents, Wed Nov 11 2026. No macro, syntax, notation, axiom, sorry.
-/
import Derived.Test.YtepjebmiegkpnaaChecked
import GoSem.Claim
import GoSem.ClaimJoined
import GoSem.ClaimMapViews
import Derived.JoinedTies
import Derived.KernelRfl
namespace Go.Proofs.Ytepjebmiegkpnaa
/- THE CELL 'sum', in the pinned program and in every row, IS THE sha256 OF THE DUMP (.gsa) THAT YtepjebmiegkpnaaProg.lean LOADS. Nothing in Lean hashes anything: it is a label: what it is worth is what the hold of that sum in a sandbox is worth. -/
noncomputable def Try.pinned : Pinned := { name := "ytepjebmiegkpnaa", sum := "32dd06c1238b58b28a730007837841497a5f71842422c7bbb7bf0c628a6cc38b", checked := Try.checked }
namespace Rows
def none {H : Type} : Left H := { results := [], args := [] }

/-- 'pantrylaw06.ArenaApart': WHATEVER THE INPUT: true; the input reads as it did. -/
def arenaApartSpec : ChangeSpec := { name := "arenaApart", fn := fun _ => fun
  | [d1, d2] => { results := [.lit (.bool true)], args := [d1, d2] }
  | _ => none }
def arenaApartRow : OpenClaim := { program := "ytepjebmiegkpnaa", sum := "32dd06c1238b58b28a730007837841497a5f71842422c7bbb7bf0c628a6cc38b", func := "pantry/pantrylaw06.ArenaApart", spec := "arenaApart", apart := false }
def ArenaApartSaid : Prop := arenaApartRow.holds Try.pinned (OpenSpec.ofChange arenaApartSpec)

/-- ITS FALSE NEIGHBOUR: 'it returns false'. Refute it at one input. -/
def arenaApartWrong : ChangeSpec := { name := "arenaApart", fn := fun _ => fun
  | [d1, d2] => { results := [.lit (.bool false)], args := [d1, d2] }
  | _ => none }
def ArenaApartWrongFalsely : Prop := arenaApartRow.holds Try.pinned (OpenSpec.ofChange arenaApartWrong)

/-- 'pantrylaw06.ArenaFills': WHATEVER THE INPUT: true; the input reads as it did. -/
def arenaFillsSpec : ChangeSpec := { name := "arenaFills", fn := fun _ => fun
  | [d1, d2] => { results := [.lit (.bool true)], args := [d1, d2] }
  | _ => none }
def arenaFillsRow : OpenClaim := { program := "ytepjebmiegkpnaa", sum := "32dd06c1238b58b28a730007837841497a5f71842422c7bbb7bf0c628a6cc38b", func := "pantry/pantrylaw06.ArenaFills", spec := "arenaFills", apart := false }
def ArenaFillsSaid : Prop := arenaFillsRow.holds Try.pinned (OpenSpec.ofChange arenaFillsSpec)

/-- ITS FALSE NEIGHBOUR: 'it returns false'. Refute it at one input. -/
def arenaFillsWrong : ChangeSpec := { name := "arenaFills", fn := fun _ => fun
  | [d1, d2] => { results := [.lit (.bool false)], args := [d1, d2] }
  | _ => none }
def ArenaFillsWrongFalsely : Prop := arenaFillsRow.holds Try.pinned (OpenSpec.ofChange arenaFillsWrong)

/-- 'pantrylaw06.ArenaLast': WHATEVER THE INPUT: true; the input reads as it did. -/
def arenaLastSpec : ChangeSpec := { name := "arenaLast", fn := fun _ => fun
  | [d1, d2] => { results := [.lit (.bool true)], args := [d1, d2] }
  | _ => none }
def arenaLastRow : OpenClaim := { program := "ytepjebmiegkpnaa", sum := "32dd06c1238b58b28a730007837841497a5f71842422c7bbb7bf0c628a6cc38b", func := "pantry/pantrylaw06.ArenaLast", spec := "arenaLast", apart := false }
def ArenaLastSaid : Prop := arenaLastRow.holds Try.pinned (OpenSpec.ofChange arenaLastSpec)

/-- ITS FALSE NEIGHBOUR: 'it returns false'. Refute it at one input. -/
def arenaLastWrong : ChangeSpec := { name := "arenaLast", fn := fun _ => fun
  | [d1, d2] => { results := [.lit (.bool false)], args := [d1, d2] }
  | _ => none }
def ArenaLastWrongFalsely : Prop := arenaLastRow.holds Try.pinned (OpenSpec.ofChange arenaLastWrong)

/-- 'pantrylaw06.ArenaSets': WHATEVER THE INPUT: true; the input reads as it did. -/
def arenaSetsSpec : ChangeSpec := { name := "arenaSets", fn := fun _ => fun
  | [d1, d2, d3] => { results := [.lit (.bool true)], args := [d1, d2, d3] }
  | _ => none }
def arenaSetsRow : OpenClaim := { program := "ytepjebmiegkpnaa", sum := "32dd06c1238b58b28a730007837841497a5f71842422c7bbb7bf0c628a6cc38b", func := "pantry/pantrylaw06.ArenaSets", spec := "arenaSets", apart := false }
def ArenaSetsSaid : Prop := arenaSetsRow.holds Try.pinned (OpenSpec.ofChange arenaSetsSpec)

/-- ITS FALSE NEIGHBOUR: 'it returns false'. Refute it at one input. -/
def arenaSetsWrong : ChangeSpec := { name := "arenaSets", fn := fun _ => fun
  | [d1, d2, d3] => { results := [.lit (.bool false)], args := [d1, d2, d3] }
  | _ => none }
def ArenaSetsWrongFalsely : Prop := arenaSetsRow.holds Try.pinned (OpenSpec.ofChange arenaSetsWrong)

/-- 'pantrylaw06.ArenaPlays': WHATEVER THE INPUT: true; the input reads as it did. -/
def arenaPlaysSpec : ChangeSpec := { name := "arenaPlays", fn := fun _ => fun
  | [d1, d2] => { results := [.lit (.bool true)], args := [d1, d2] }
  | _ => none }
def arenaPlaysRow : OpenClaim := { program := "ytepjebmiegkpnaa", sum := "32dd06c1238b58b28a730007837841497a5f71842422c7bbb7bf0c628a6cc38b", func := "pantry/pantrylaw06.ArenaPlays", spec := "arenaPlays", unfollowed := true, recurses := true, apart := false }
def ArenaPlaysSaid : Prop := arenaPlaysRow.holds Try.pinned (OpenSpec.ofChange arenaPlaysSpec)

/-- ITS FALSE NEIGHBOUR: 'it returns false'. Refute it at one input. -/
def arenaPlaysWrong : ChangeSpec := { name := "arenaPlays", fn := fun _ => fun
  | [d1, d2] => { results := [.lit (.bool false)], args := [d1, d2] }
  | _ => none }
def ArenaPlaysWrongFalsely : Prop := arenaPlaysRow.holds Try.pinned (OpenSpec.ofChange arenaPlaysWrong)

/- THE SECOND FORM. 'bulk': how many values and letters a reading holds, each counted each time it is reached (what is shared counts as often as it is met; a slice's spare places count too). A statement '..UptoSaid' is the law's where the arguments, and the package variables that the reading takes, are together of bulk at most 1048576: NARROWER than '..Said'. Prove '..Said' where nothing that the law and all that it calls make is longer than what came in: it says more and counts as full. Else prove '..UptoSaid'. A law counts once. -/
mutual
def uptoBulk {H : Type} : DataW H → Nat
  | .lit (.string bytes) => bytes.length + 1
  | .lit _ => 1
  | .nil => 1
  | .ptr d => uptoBulk d + 1
  | .slice elems spare => uptoBulkAll elems + uptoBulkAll spare + 1
  | .agg parts => uptoBulkAll parts + 1
  | .iface _ d => uptoBulk d + 1
  | .map entries => uptoBulkEntries entries + 1
  | .held _ => 1
def uptoBulkAll {H : Type} : List (DataW H) → Nat
  | [] => 0
  | d :: r => uptoBulk d + uptoBulkAll r
def uptoBulkEntries {H : Type} : List (Lit × DataW H) → Nat
  | [] => 0
  | x :: r => uptoBulkEntry x + uptoBulkEntries r
def uptoBulkEntry {H : Type} : Lit × DataW H → Nat
  | (.string bytes, d) => bytes.length + uptoBulk d + 1
  | (_, d) => uptoBulk d + 1
 end
def uptoSmall : (H : Type) → List (DataW H) → Bool := fun _ ds => decide (uptoBulkAll ds ≤ 1048576)
def OpenSpec.upto (s : _root_.Go.ChangeSpec) : _root_.Go.OpenSpec := { _root_.Go.OpenSpec.ofChange s with cond := some uptoSmall }

/-- 'pantrylaw06.ArenaApart', WHERE WHAT IT READS IS OF BULK AT MOST 1048576: true; the input reads as it did. -/
def arenaApartUptoRow : OpenClaim := { program := "ytepjebmiegkpnaa", sum := "32dd06c1238b58b28a730007837841497a5f71842422c7bbb7bf0c628a6cc38b", func := "pantry/pantrylaw06.ArenaApart", spec := "arenaApart", apart := false, narrowed := true }
def ArenaApartUptoSaid : Prop := arenaApartUptoRow.holds Try.pinned (OpenSpec.upto arenaApartSpec)

/-- 'pantrylaw06.ArenaFills', WHERE WHAT IT READS IS OF BULK AT MOST 1048576: true; the input reads as it did. -/
def arenaFillsUptoRow : OpenClaim := { program := "ytepjebmiegkpnaa", sum := "32dd06c1238b58b28a730007837841497a5f71842422c7bbb7bf0c628a6cc38b", func := "pantry/pantrylaw06.ArenaFills", spec := "arenaFills", apart := false, narrowed := true }
def ArenaFillsUptoSaid : Prop := arenaFillsUptoRow.holds Try.pinned (OpenSpec.upto arenaFillsSpec)

/-- 'pantrylaw06.ArenaLast', WHERE WHAT IT READS IS OF BULK AT MOST 1048576: true; the input reads as it did. -/
def arenaLastUptoRow : OpenClaim := { program := "ytepjebmiegkpnaa", sum := "32dd06c1238b58b28a730007837841497a5f71842422c7bbb7bf0c628a6cc38b", func := "pantry/pantrylaw06.ArenaLast", spec := "arenaLast", apart := false, narrowed := true }
def ArenaLastUptoSaid : Prop := arenaLastUptoRow.holds Try.pinned (OpenSpec.upto arenaLastSpec)

/-- 'pantrylaw06.ArenaSets', WHERE WHAT IT READS IS OF BULK AT MOST 1048576: true; the input reads as it did. -/
def arenaSetsUptoRow : OpenClaim := { program := "ytepjebmiegkpnaa", sum := "32dd06c1238b58b28a730007837841497a5f71842422c7bbb7bf0c628a6cc38b", func := "pantry/pantrylaw06.ArenaSets", spec := "arenaSets", apart := false, narrowed := true }
def ArenaSetsUptoSaid : Prop := arenaSetsUptoRow.holds Try.pinned (OpenSpec.upto arenaSetsSpec)

/-- 'pantrylaw06.ArenaPlays', WHERE WHAT IT READS IS OF BULK AT MOST 1048576: true; the input reads as it did. -/
def arenaPlaysUptoRow : OpenClaim := { program := "ytepjebmiegkpnaa", sum := "32dd06c1238b58b28a730007837841497a5f71842422c7bbb7bf0c628a6cc38b", func := "pantry/pantrylaw06.ArenaPlays", spec := "arenaPlays", unfollowed := true, recurses := true, apart := false, narrowed := true }
def ArenaPlaysUptoSaid : Prop := arenaPlaysUptoRow.holds Try.pinned (OpenSpec.upto arenaPlaysSpec)

end Rows
end Go.Proofs.Ytepjebmiegkpnaa
