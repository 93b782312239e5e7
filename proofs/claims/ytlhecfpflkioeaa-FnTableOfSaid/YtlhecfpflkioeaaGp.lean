/- Tables of heaps tell the heaps. No program is walked. -/
import Derived.Test.YtlhecfpflkioeaaTo2
import Derived.Test.YtlhecfpflkioeaaThp
namespace Go.Proofs.Ytlhecfpflkioeaa
open Go.RowKit
theorem leads_in {cs : List Cel} {r : Int} (h : leadsB cs r = true) : r = -1 ∨ (0 ≤ r ∧ r < cs.length) := by
  simp only [leadsB, Bool.or_eq_true, Bool.and_eq_true, beq_iff_eq, decide_eq_true_eq] at h
  rcases h with h | h
  · exact .inl h
  · exact .inr h.1
theorem heapOk_refsL {h : Hp} (h0 : heapOk h = true) {c : Cel} (hc : c ∈ h.cells) {r : Int} (hr : r ∈ c.refs) : leadsB h.cells r = true := by
  simp only [heapOk, Bool.and_eq_true, decide_eq_true_eq, List.all_eq_true] at h0
  have h1 := h0.1.2 c hc
  unfold cellOk at h1
  cases hu : c.used <;> rw [hu] at h1 <;> simp at h1
  · have := h1.2; rw [this] at hr; cases hr
  · exact h1.1 r hr
theorem heapOk_root {h : Hp} (h0 : heapOk h = true) {r : Int} (hr : r ∈ h.roots) : leadsB h.cells r = true := by
  simp only [heapOk, Bool.and_eq_true, decide_eq_true_eq, List.all_eq_true] at h0
  exact h0.2 r hr
theorem upTo_at {n q : Nat} (h : q < n) : (upTo n)[q]? = some (q : Int) := by simp [upTo, List.getElem?_range h]
theorem tellR_up {n : Nat} {r : Int} (h : r = -1 ∨ (0 ≤ r ∧ r < n)) : tellR (upTo n) r = r := by
  rcases h with rfl | ⟨h0, h1⟩
  · exact tellR_nil _
  · obtain ⟨q, rfl⟩ := Int.eq_ofNat_of_zero_le h0
    exact tellR_at (Go.Lib.hid (upTo_at (by omega)))
theorem map_idI {f : Int → Int} {xs : List Int} (h : ∀ x ∈ xs, f x = x) : xs.map f = xs := by
  rw [List.map_congr_left h]; simp
theorem tell_up {h : Hp} (h0 : heapOk h = true) : tellH ⟨h, upTo h.cells.length⟩ = h := by
  have e1 : h.roots.map (tellR (upTo h.cells.length)) = h.roots := map_idI fun r hr => tellR_up (leads_in (heapOk_root h0 hr))
  have e2 : h.cells.map (tellC (upTo h.cells.length)) = h.cells := by
    have : ∀ c ∈ h.cells, tellC (upTo h.cells.length) c = c := fun c hc => by
      unfold tellC
      rw [map_idI fun r hr => tellR_up (leads_in (heapOk_refsL h0 hc hr))]
    rw [List.map_congr_left this]; simp
  unfold tellH
  simp only [e1, e2]
theorem upTo_take {n k : Nat} (h : k ≤ n) : (upTo n).take k = upTo k := by
  unfold upTo
  rw [← List.map_take, List.take_range, Nat.min_eq_left h]
theorem upTo_perm (n : Nat) : permB (upTo n) = true := permB_yes fun k hk => by
  rw [upTo_len] at hk
  refine handAt_yes (Go.Lib.hid (upTo_at hk)) (by omega) (by rw [upTo_len]; omega) ?_
  rw [upTo_take (by omega)]
  simp [upTo]
  omega
theorem up_valid {h : Hp} (h0 : heapOk h = true) : mTableValid ⟨h, upTo h.cells.length⟩ = true := by
  have h1 := (heapOk_small h0).1
  unfold mTableValid
  rw [tell_up h0, h0, upTo_perm]
  simp [upTo_len, h1]
theorem tabOf_valid {h : Hp} (h0 : heapOk h = true) : mTableValid (mTableOf h) = true := by rw [mTabOf_yes h0]; exact up_valid h0
theorem tabHeap_of {h : Hp} (h0 : heapOk h = true) : mTableHeap (mTableOf h) = h := by rw [mTHp_yes (tabOf_valid h0), mTabOf_yes h0]; exact tell_up h0
end Go.Proofs.Ytlhecfpflkioeaa
