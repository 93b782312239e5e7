/- TableHeap, the program's and the reference's: both make mTableHeap, for every table that can be read. -/
import Derived.Test.YtjpfgbckmcjjaaaTs
namespace Go.Proofs.Ytjpfgbckmcjjaaa
open Go.RowKit
def mTableHeap (t : Tbl) : Hp := if mTableValid t then tellH t else ⟨[], []⟩
theorem mTHp_no {t : Tbl} (h0 : mTableValid t = false) : mTableHeap t = ⟨[], []⟩ := by simp [mTableHeap, h0]
theorem mTHp_yes {t : Tbl} (h0 : mTableValid t = true) : mTableHeap t = tellH t := by simp [mTableHeap, h0]
/-- A call makes a heap: two parts of its own. -/
def MadeHp (w : World) (h : Hp) (e : Ending) (w' : World) : Prop := ∃ cv rvs rv, e = .returned (.agg #[cv, rv]) ∧ Owns w.heap.size w w' [.cells cv rvs h.cells, .ints rv h.roots]
theorem mTab_allIn {t : Tbl} (h0 : mTableValid t = true) : allIn t = true := by
  simp only [mTableValid, Bool.and_eq_true] at h0
  exact heapOk_allIn h0.2
end Go.Proofs.Ytjpfgbckmcjjaaa
