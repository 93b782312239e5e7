/- How many marks PackTable's result takes. No program is walked. -/
import Derived.Test.YtoekikeomgfaiaaPt
import Derived.Test.YtoekikeomgfaiaaMsL
namespace Go.Proofs.Ytoekikeomgfaiaa
open Go.RowKit
theorem valid_k {t : Tbl} (h : mTableValid t = true) : kTbl t ≤ 1000 := by
  obtain ⟨h1, h2, h3, h4⟩ := tab_refs h
  have h5 := kAdd_le t.store.cells 5 h1
  show kAdd t.store.cells + t.store.roots.length + t.hands.length ≤ _
  omega
theorem mPackT_len (t : Tbl) : kTbl (mPackT t) ≤ 16777216 := by
  cases hv : mTableValid t
  · simp [mPackT, hv, kTbl, kHeap, kAdd]
  · have h := valid_k (packTo_valid hv t.store.cells.length (Nat.le_refl _))
    have e : mPackT t = (packTo t t.store.cells.length).1 := by simp [mPackT, hv]
    rw [e]
    omega
end Go.Proofs.Ytoekikeomgfaiaa
