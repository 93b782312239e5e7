/- The list that SaveImage makes is short. -/
import Derived.Test.YtnpehidhoekfcaaSvI
namespace Go.Proofs.Ytnpehidhoekfcaa
open Go.RowKit
theorem saveCell_len (base : Int) (cs : List Cel) : ∀ ds : List Cel, (∀ c ∈ ds, cellOk cs c = true) → (ds.flatMap (saveCell base)).length ≤ 5 * ds.length
  | [], _ => by simp
  | c :: ds, h => by
    have h1 := saveCell_len base cs ds fun c hc => h c (List.mem_cons_of_mem _ hc)
    have h2 := h c List.mem_cons_self
    have h3 : (saveCell base c).length ≤ 5 := by
      unfold saveCell
      split
      · unfold cellOk at h2
        simp_all
      · simp
    simp only [List.flatMap_cons, List.length_append, List.length_cons]
    omega
theorem mSaveImage_len (h : Hp) (base : Int) : (mSaveImage h base).length ≤ 1048576 := by
  cases hy : heapOk h
  · rw [mSave_no1 hy]; simp
  by_cases hb : base < 0 ∨ 10000 < base
  · rw [mSave_no2 hb]; simp
  rw [mSave_yes hy (by omega) (by omega)]
  have h1 := heapOk_cells hy
  have h2 := heapOk_roots4 hy
  have h3 := saveCell_len base h.cells h.cells (by
    simp only [heapOk, Bool.and_eq_true, List.all_eq_true] at hy
    exact hy.1.2)
  simp only [saveAll, List.length_cons, List.length_append, List.length_map]
  omega
end Go.Proofs.Ytnpehidhoekfcaa
