/- Rows of 64-bit words as values. -/
import Derived.Test.YtachbhgfcdnhdaaProg
import Derived.WalkKit
namespace Go.Proofs.Ytachbhgfcdnhdaa
open Go.RowKit
def wordsV (ws : List Nat) : List Value := ws.map (fun (w : Nat) => Value.int .u64 (w : Int))
theorem wordsV_get (ws : List Nat) (i : Nat) (h : i < ws.length) : (wordsV ws).toArray[i]? = some (.int .u64 ((ws.getD i 0 : Nat) : Int)) := by
  simp [wordsV, List.getD, h]
theorem wordsV_len (ws : List Nat) : (wordsV ws).length = ws.length := by simp [wordsV]
theorem wordsV_set (ws : List Nat) (i v : Nat) : (wordsV ws).toArray.setIfInBounds i (.int .u64 (v : Int)) = (wordsV (ws.set i v)).toArray := by simp [wordsV, List.map_set]
end Go.Proofs.Ytachbhgfcdnhdaa
