/- How many marks TableOf's table takes. No program. -/
import Derived.Test.YteflbjchnfebaaaTo2
import Derived.Test.YteflbjchnfebaaaMo
namespace Go.Proofs.Yteflbjchnfebaaa
open Go.RowKit
theorem mTableOf_len (h : Hp) (hk : kHeap h ≤ 4194304) (hn : h.cells.length ≤ 1048576) : kTbl (mTableOf h) ≤ 16777216 := by
  cases hy : heapOk h
  · rw [mTabOf_no hy]; simp [kTbl, kHeap, kAdd]
  · rw [mTabOf_yes hy]
    show kHeap h + (upTo h.cells.length).length ≤ _
    rw [upTo_len]; omega
end Go.Proofs.Yteflbjchnfebaaa
