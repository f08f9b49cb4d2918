/- Contracts of layer 2's functions: all counters at once. -/
import Derived.Test.YtachbhgfcdnhdaaNibArr
namespace Go.Proofs.Ytachbhgfcdnhdaa
open Go.RowKit NibPure Go.Sep
/-- an array whose first k places hold the counters -/
def Filled (x k : Nat) (cur : Array Value) : Prop := cur.size = 16 ∧ ∀ j, j < k → cur[j]? = some (.int .i64 (dg x j))
end Go.Proofs.Ytachbhgfcdnhdaa
