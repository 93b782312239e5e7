/- The laws' equality functions return true for two slices, cells or heaps that read as the same list. -/
import Derived.Test.YtmhcajjlhiopmaaZ0
import Derived.Test.YtmhcajjlhiopmaaChecked
import Derived.Deep.RegionHeld3
namespace Go.Proofs.Ytmhcajjlhiopmaa
open Go.RowKit
end Go.Proofs.Ytmhcajjlhiopmaa
