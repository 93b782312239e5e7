/- How many marks DropRegion's results take. No program is walked. -/
import Derived.Test.YtjpfgbckmcjjaaaDr
import Derived.Test.YtjpfgbckmcjjaaaZ0
namespace Go.Proofs.Ytjpfgbckmcjjaaa
open Go.RowKit
theorem kAdd_le : ∀ (cs : List Cel) (b : Nat), (∀ c ∈ cs, c.refs.length ≤ b) → kAdd cs ≤ cs.length * (b + 2)
  | [], b, _ => by simp [kAdd]
  | c :: cs, b, h => by
    have h1 := kAdd_le cs b fun c hc => h c (List.mem_cons_of_mem _ hc)
    have h2 := h c (List.mem_cons_self ..)
    rw [kAdd, List.length_cons, Nat.succ_mul]
    omega
theorem heapOk_refsLen {h : Hp} (h0 : heapOk h = true) : ∀ c ∈ h.cells, c.refs.length ≤ 5 := by
  intro c hc
  simp only [heapOk, Bool.and_eq_true, List.all_eq_true] at h0
  have := h0.1.2 c hc
  unfold cellOk at this
  split at this
  · simp only [Bool.and_eq_true, decide_eq_true_eq] at this; omega
  · simp only [Bool.and_eq_true, decide_eq_true_eq] at this; omega
theorem heapOk_k {h : Hp} (h0 : heapOk h = true) : kHeap h ≤ 1000 := by
  have h1 := heapOk_small h0
  have h2 := kAdd_le h.cells 5 (heapOk_refsLen h0)
  unfold kHeap
  omega
theorem mDropH_len (h : Hp) (rs : List Int) (f : Int) : kHeap (mDropH h rs f) ≤ 16777216 := by
  cases hy : mDropOk h rs f
  · rw [(mDrop_no hy).1]; simp [kHeap, kAdd]
  · rw [(mDrop_yes hy).1]
    have h0 : heapOk h = true := by simp only [mDropOk, mRegionsValid, Bool.and_eq_true] at hy; exact hy.1.1.1
    have h1 := heapOk_small h0
    have h2 := kAdd_le (drCells h.cells rs f) 5 (by
      intro c hc
      unfold drCells at hc
      obtain ⟨i, hi, rfl⟩ := List.mem_map.1 hc
      have hi := List.mem_range.1 hi
      split
      · simp [noCel]
      · rw [List.getD_eq_getElem?_getD, List.getElem?_eq_getElem hi, Option.getD_some]; exact heapOk_refsLen h0 _ (List.getElem_mem hi))
    have h3 : (drCells h.cells rs f).length = h.cells.length := by simp [drCells]
    rw [h3] at h2
    show kAdd (drCells h.cells rs f) + (h.roots.map _).length ≤ _
    rw [List.length_map]
    have : h.cells.length * 7 ≤ 1000 := by omega
    omega
theorem mDropL_len (h : Hp) (rs : List Int) (f : Int) (hl : rs.length ≤ 1048576) : (mDropL h rs f).length ≤ 16777216 := by
  cases hy : mDropOk h rs f
  · rw [(mDrop_no hy).2.1]; simp
  · rw [(mDrop_yes hy).2.1, List.length_map]; omega
end Go.Proofs.Ytjpfgbckmcjjaaa
