/- The program's copyHeap makes the heap that it was handed. -/
import Derived.Test.YtnpehidhoekfcaaZ0
import Derived.Deep.DeepCutAuto
namespace Go.Proofs.Ytnpehidhoekfcaa
open Go.RowKit
end Go.Proofs.Ytnpehidhoekfcaa
