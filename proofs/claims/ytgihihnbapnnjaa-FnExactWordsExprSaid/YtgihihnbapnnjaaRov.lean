/- The call answers this value, in new memory at most. No condition. -/
import Derived.Test.YtgihihnbapnnjaaBas
namespace Go.Proofs.Ytgihihnbapnnjaa
open Go.RowKit
def RO (w : World) (v : Value) (e : Ending) (w' : World) : Prop := e = .returned v ∧ Below w.heap.size w w'
end Go.Proofs.Ytgihihnbapnnjaa
