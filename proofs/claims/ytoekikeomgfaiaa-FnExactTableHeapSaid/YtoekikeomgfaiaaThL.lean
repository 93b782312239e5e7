/- How many marks TableHeap's result takes. No program is walked. -/
import Derived.Test.YtoekikeomgfaiaaThp
import Derived.Test.YtoekikeomgfaiaaDrL
namespace Go.Proofs.Ytoekikeomgfaiaa
open Go.RowKit
theorem mTableHeap_len (t : Tbl) : kHeap (mTableHeap t) ≤ 16777216 := by
  cases hy : mTableValid t
  · rw [mTHp_no hy]; simp [kHeap, kAdd]
  · rw [mTHp_yes hy]
    simp only [mTableValid, Bool.and_eq_true] at hy
    have := heapOk_k hy.2
    omega
end Go.Proofs.Ytoekikeomgfaiaa
