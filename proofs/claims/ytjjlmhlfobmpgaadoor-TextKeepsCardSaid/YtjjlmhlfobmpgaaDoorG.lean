/-
Walks: text.words.
-/
import Derived.Test.YtjjlmhlfobmpgaaDoorB
namespace Go.Proofs.YtjjlmhlfobmpgaaDoor
open Go.RowKit

def str (l : Tx.Bytes) : Value := .string ⟨l.toArray⟩
def wcells (x : Tx.Bytes × Int × Bool × Tx.Bytes) : List Value := [str x.1, .int .i64 x.2.1, .bool x.2.2.1, str x.2.2.2]
def wordCells : Array Value := (Tx.words.flatMap wcells).toArray

set_option maxHeartbeats 2000000 in
set_option maxRecDepth 100000 in
theorem words_any (w : World) :
    Calls Tryd.prog 46 #[] w fun e w' => e = .returned (.slice (some ⟨w.heap.size, 0, none⟩) 13 13) ∧ w.alloc (.cells wordCells 89) = w' := by
  go_enter Tryd.func46, Tryd.ntmps46
  go_wp2
  go_ret
  exact ⟨rfl, rfl⟩

end Go.Proofs.YtjjlmhlfobmpgaaDoor
