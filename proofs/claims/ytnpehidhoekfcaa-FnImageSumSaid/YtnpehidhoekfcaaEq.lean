/- The laws' equality functions return true for two slices, cells or heaps that read as the same list. -/
import Derived.Test.YtnpehidhoekfcaaZ0
import Derived.Test.YtnpehidhoekfcaaChecked
import Derived.Deep.RegionHeld3
namespace Go.Proofs.Ytnpehidhoekfcaa
open Go.RowKit
end Go.Proofs.Ytnpehidhoekfcaa
