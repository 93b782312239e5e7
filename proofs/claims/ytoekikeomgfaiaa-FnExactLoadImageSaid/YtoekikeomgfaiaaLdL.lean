/- How many marks LoadImage's heap takes. No program is walked. -/
import Derived.Test.YtoekikeomgfaiaaLd
import Derived.Test.YtoekikeomgfaiaaDrL
namespace Go.Proofs.Ytoekikeomgfaiaa
open Go.RowKit
theorem mLoadH_len (l : List Int) : kHeap (mLoadH l) ≤ 16777216 := by
  cases hy : ldOk l
  · rw [(mLoad_no hy).1]; simp [kHeap, kAdd]
  · rw [(mLoad_yes hy).1]
    have := heapOk_k (ldOk_img hy).ok
    omega
end Go.Proofs.Ytoekikeomgfaiaa
