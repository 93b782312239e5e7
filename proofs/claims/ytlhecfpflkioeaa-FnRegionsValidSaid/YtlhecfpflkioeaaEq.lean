/- The laws' equality functions return true for two slices, cells or heaps that read as the same list. -/
import Derived.Test.YtlhecfpflkioeaaOwn
import Derived.Test.YtlhecfpflkioeaaChecked
import Derived.Deep.RegionHeld3
namespace Go.Proofs.Ytlhecfpflkioeaa
open Go.RowKit
end Go.Proofs.Ytlhecfpflkioeaa
