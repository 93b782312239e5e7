/- How many marks MoveCells' result takes. No program is walked. -/
import Derived.Test.YtcekohpekpkobaaMc
import Derived.Test.YtcekohpekpkobaaMo
import Derived.Test.YtcekohpekpkobaaDrL
namespace Go.Proofs.Ytcekohpekpkobaa
open Go.RowKit
theorem tab_refs {t : Tbl} (h : mTableValid t = true) : (∀ c ∈ t.store.cells, c.refs.length ≤ 5) ∧ t.store.cells.length ≤ 40 ∧ t.store.roots.length ≤ 4 ∧ t.hands.length ≤ 40 := by
  simp only [mTableValid, Bool.and_eq_true, decide_eq_true_eq] at h
  have h1 := heapOk_refsLen h.2
  have h2 := heapOk_small h.2
  refine ⟨fun c hc => ?_, ?_, ?_, h.1.1.2⟩
  · have := h1 (tellC t.hands c) (List.mem_map.2 ⟨c, hc, rfl⟩)
    simpa [tellC] using this
  · have := h2.1; simpa [tellH] using this
  · have := h2.2; simp [tellH] at this; omega
theorem mMoved_k {t : Tbl} (h : mTableValid t = true) (a b : Nat) : kTbl (mMoved t a b) ≤ 1000 := by
  obtain ⟨h1, h2, h3, h4⟩ := tab_refs h
  have hg : ∀ k, (t.store.cells.getD k noCel).refs.length ≤ 5 := fun k => by
    rw [List.getD_eq_getElem?_getD]
    cases hk : t.store.cells[k]? with
    | none => simp [noCel]
    | some c => exact h1 c (List.mem_of_getElem? hk)
  have h5 := kAdd_le (swCells t.store.cells a b) 5 (by
    intro c hc
    unfold swCells at hc
    rcases List.mem_or_eq_of_mem_set hc with hc | rfl
    · rcases List.mem_or_eq_of_mem_set hc with hc | rfl
      · exact h1 c hc
      · exact hg b
    · exact hg a)
  rw [swCells_len] at h5
  show kAdd (swCells t.store.cells a b) + t.store.roots.length + (t.hands.map _).length ≤ _
  rw [List.length_map]
  omega
theorem mMove_len (t : Tbl) (a b : Int) : kTbl (mMove t a b) ≤ 16777216 := by
  unfold mMove
  split
  · rename_i hy
    have hv : mTableValid t = true := by simp only [mMoveOk, Bool.and_eq_true] at hy; exact hy.1
    have := mMoved_k hv a.toNat b.toNat
    omega
  · simp [kTbl, kHeap, kAdd]
end Go.Proofs.Ytcekohpekpkobaa
