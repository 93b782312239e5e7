/- Plain laws on sums of images: when the data of one used cell is greater by 1, the sum is another. No program. -/
import Derived.Test.YtnpehidhoekfcaaIm
namespace Go.Proofs.Ytnpehidhoekfcaa
open Go.RowKit
theorem sumStep_in (n x : Int) : 0 ≤ sumStep n x ∧ sumStep n x < 65521 := by unfold sumStep; omega
theorem sumStep_inj {n m x : Int} (h0 : 0 ≤ n) (h1 : n < 65521) (h2 : 0 ≤ m) (h3 : m < 65521) (h : sumStep n x = sumStep m x) : n = m := by
  unfold sumStep at h
  omega
theorem sumStep_next {n x : Int} : sumStep n x ≠ sumStep n (x + 1) := by
  unfold sumStep
  omega
theorem fold_inj : ∀ (l : List Int) {n m : Int}, 0 ≤ n → n < 65521 → 0 ≤ m → m < 65521 → n ≠ m → l.foldl sumStep n ≠ l.foldl sumStep m
  | [], _, _, _, _, _, _, h => h
  | x :: l, n, m, h0, h1, h2, h3, h => by
    rw [List.foldl_cons, List.foldl_cons]
    have a := sumStep_in n x
    have b := sumStep_in m x
    exact fold_inj l a.1 a.2 b.1 b.2 fun e => h (sumStep_inj h0 h1 h2 h3 e)
theorem sumUp_next (A B : List Int) (x : Int) : sumUp (A ++ x :: B) ≠ sumUp (A ++ (x + 1) :: B) := by
  unfold sumUp
  rw [List.foldl_append, List.foldl_append, List.foldl_cons, List.foldl_cons]
  have a := sumStep_in (A.foldl sumStep 1) x
  have b := sumStep_in (A.foldl sumStep 1) (x + 1)
  exact fold_inj B a.1 a.2 b.1 b.2 sumStep_next
/-- The heap whose cell k has data d. -/
def setDatH (h : Hp) (k : Nat) (l : Cel) (d : Int) : Hp := ⟨h.cells.set k ⟨l.used, d, l.refs⟩, h.roots⟩
theorem setDatH_used {h : Hp} {k : Nat} {l : Cel} (hl : h.cells[k]? = some l) (d : Int) (c : Nat) : ((setDatH h k l d).cells.getD c noCel).used = (h.cells.getD c noCel).used := by
  unfold setDatH
  simp only [List.getD_eq_getElem?_getD, List.getElem?_set]
  by_cases e : k = c
  · subst e
    obtain ⟨hk, rfl⟩ := List.getElem?_eq_some_iff.1 hl
    simp [hk]
  · simp [e]
theorem setDatH_leads {h : Hp} {k : Nat} {l : Cel} (hl : h.cells[k]? = some l) (d r : Int) : leadsB (setDatH h k l d).cells r = leadsB h.cells r := by
  unfold leadsB
  rw [setDatH_used hl]
  simp [setDatH]
theorem setDatH_cell {h : Hp} {k : Nat} {l : Cel} (hl : h.cells[k]? = some l) (d : Int) (c : Cel) : cellOk (setDatH h k l d).cells c = cellOk h.cells c := by
  unfold cellOk
  have e : leadsB (setDatH h k l d).cells = leadsB h.cells := funext fun r => setDatH_leads hl d r
  rw [e]
theorem setDatH_ok {h : Hp} (h0 : heapOk h = true) {k : Nat} {l : Cel} (hl : h.cells[k]? = some l) (hu : l.used = true) {d : Int} (d0 : 0 ≤ d) (d1 : d ≤ 99) : heapOk (setDatH h k l d) = true := by
  simp only [heapOk, Bool.and_eq_true, List.all_eq_true, decide_eq_true_eq] at h0 ⊢
  refine ⟨⟨⟨by simp [setDatH]; exact h0.1.1.1, h0.1.1.2⟩, fun c hc => ?_⟩, fun r hr => by rw [setDatH_leads hl]; exact h0.2 r hr⟩
  rw [setDatH_cell hl]
  rcases List.mem_or_eq_of_mem_set hc with hc | rfl
  · exact h0.1.2 c hc
  · have h1 := h0.1.2 l (List.mem_of_getElem? hl)
    unfold cellOk at h1 ⊢
    rw [if_pos hu] at h1
    rw [if_pos hu]
    simp only [Bool.and_eq_true, decide_eq_true_eq] at h1 ⊢
    exact ⟨h1.1, ⟨d0, d1⟩, h1.2.2⟩
theorem save_next {h : Hp} {k : Nat} {l : Cel} (hl : h.cells[k]? = some l) (hu : l.used = true) (b : Int) : ∃ A B, saveAll h b = A ++ l.data :: B ∧ saveAll (setDatH h k l (l.data + 1)) b = A ++ (l.data + 1) :: B := by
  obtain ⟨hk, rfl⟩ := List.getElem?_eq_some_iff.1 hl
  have e1 : h.cells = h.cells.take k ++ h.cells[k] :: h.cells.drop (k + 1) := by
    rw [← List.drop_eq_getElem_cons hk, List.take_append_drop]
  have e2 : h.cells.set k ⟨h.cells[k].used, h.cells[k].data + 1, h.cells[k].refs⟩ = h.cells.take k ++ ⟨h.cells[k].used, h.cells[k].data + 1, h.cells[k].refs⟩ :: h.cells.drop (k + 1) := List.set_eq_take_append_cons_drop.trans (by rw [if_pos hk])
  refine ⟨b :: (h.cells.length : Int) :: (h.roots.map (saveRef b) ++ ((h.cells.take k).flatMap (saveCell b) ++ [(h.cells[k].refs.length : Int) + 1])), h.cells[k].refs.map (saveRef b) ++ (h.cells.drop (k + 1)).flatMap (saveCell b), ?_, ?_⟩
  · unfold saveAll
    conv => lhs; rw [e1]
    rw [List.flatMap_append, List.flatMap_cons, saveCell_yes hu, ← e1]
    simp
  · unfold saveAll setDatH
    simp only [List.length_set]
    rw [e2, List.flatMap_append, List.flatMap_cons, saveCell_yes (by exact hu)]
    simp
theorem sum_next {h : Hp} {b : Int} {xs : List Int} (i : IsImg h b xs) {k : Nat} {l : Cel} (hl : h.cells[k]? = some l) (hu : l.used = true) (hd : l.data ≠ 99) : mImageSum (mSaveImage (setDatH h k l (l.data + 1)) b) ≠ mImageSum xs ∧ ∀ x ∈ mSaveImage (setDatH h k l (l.data + 1)) b, I64 x := by
  have h1 : cellOk h.cells l = true := by
    have := i.ok
    simp only [heapOk, Bool.and_eq_true, List.all_eq_true] at this
    exact this.1.2 l (List.mem_of_getElem? hl)
  unfold cellOk at h1
  rw [if_pos hu] at h1
  simp only [Bool.and_eq_true, decide_eq_true_eq] at h1
  have hok := setDatH_ok i.ok hl hu (d := l.data + 1) (by omega) (by omega)
  have e := mSave_yes hok i.b0 i.b1
  have i2 : IsImg (setDatH h k l (l.data + 1)) b (saveAll (setDatH h k l (l.data + 1)) b) := ⟨hok, i.b0, i.b1, rfl⟩
  rw [e, mSum_yes i2.yes, mSum_yes i.yes, ← i.eq]
  obtain ⟨A, B, e1, e2⟩ := save_next hl hu b
  refine ⟨?_, fun x hx => by have := ldOk_in i2.yes x hx; unfold I64; omega⟩
  rw [e1, e2]
  exact (sumUp_next A B l.data).symm
end Go.Proofs.Ytnpehidhoekfcaa
