/- RegionsValid, the program's and the reference's: both return mRegionsValid, for every heap and list that can be read. -/
import Derived.Test.YtjpfgbckmcjjaaaZ1
namespace Go.Proofs.Ytjpfgbckmcjjaaa
open Go.RowKit
def rgRef (rs : List Int) (r x : Int) : Bool := decide (x < 0) || decide (rs.getD x.toNat 0 ≤ r)
def rgAt (cs : List Cel) (rs : List Int) (k : Nat) : Bool :=
  (decide (0 ≤ rs.getD k 0) && decide (rs.getD k 0 ≤ 5)) && ((cs.getD k noCel).used || rs.getD k 0 == 0) && (cs.getD k noCel).refs.all (rgRef rs (rs.getD k 0))
def mRegionsValid (h : Hp) (rs : List Int) : Bool := heapOk h && decide (rs.length = h.cells.length) && (List.range h.cells.length).all (rgAt h.cells rs)
section
variable {cs : List Cel} {rs : List Int} {k : Nat} {l : Cel} {r : Int} {h : Hp}
theorem rgAt_eq (hl : Hid (cs[k]? = some l)) (hr : Hid (rs[k]? = some r)) : rgAt cs rs k = ((decide (0 ≤ r) && decide (r ≤ 5)) && (l.used || r == 0) && l.refs.all (rgRef rs r)) := by
  unfold rgAt; rw [getD_of hl, getD_of hr]
theorem rgAt_no1 (hl : Hid (cs[k]? = some l)) (hr : Hid (rs[k]? = some r)) (h : r < 0 ∨ 5 < r) : rgAt cs rs k = false := by rw [rgAt_eq hl hr]; simp; intros; omega
theorem rgAt_no2 (hl : Hid (cs[k]? = some l)) (hr : Hid (rs[k]? = some r)) (h : l.used = false) (h0 : r ≠ 0) : rgAt cs rs k = false := by rw [rgAt_eq hl hr]; simp [h, h0]
theorem rgAt_mid (hl : Hid (cs[k]? = some l)) (hr : Hid (rs[k]? = some r)) (h0 : 0 ≤ r) (h1 : r ≤ 5) (h : l.used = true ∨ r = 0) : rgAt cs rs k = l.refs.all (rgRef rs r) := by
  rw [rgAt_eq hl hr]; rcases h with h | h <;> simp [h0, h1, h]
theorem mRegions_no1 (h1 : heapOk h = false) : mRegionsValid h rs = false := by simp [mRegionsValid, h1]
theorem mRegions_no2 (h1 : rs.length ≠ h.cells.length) : mRegionsValid h rs = false := by simp [mRegionsValid, h1]
theorem mRegions_no3 (hk : k < h.cells.length) (h1 : rgAt h.cells rs k = false) : mRegionsValid h rs = false := by unfold mRegionsValid; rw [range_all_no hk h1, Bool.and_false]
theorem mRegions_yes (h0 : heapOk h = true) (h2 : rs.length = h.cells.length) (h1 : (List.range h.cells.length).all (rgAt h.cells rs) = true) : mRegionsValid h rs = true := by unfold mRegionsValid; rw [h0, h1]; simp [h2]
theorem rgRef_neg {x : Int} (hx : x < 0) : rgRef rs r x = true := by simp [rgRef, hx]
theorem rgRef_at {q : Nat} {y : Int} (hy : Hid (rs[q]? = some y)) : rgRef rs r (q : Int) = decide (y ≤ r) := by
  unfold rgRef; rw [Int.toNat_natCast, getD_of hy]; simp; omega
theorem leads_range {x : Int} (h : leadsB cs x = true) : x < 0 ∨ (0 ≤ x ∧ x < cs.length) := by
  simp [leadsB] at h; omega
theorem heapOk_refs (h0 : heapOk h = true) (hl : Hid (h.cells[k]? = some l)) {j : Nat} {x : Int} (hx : Hid (l.refs[j]? = some x)) : x < 0 ∨ (0 ≤ x ∧ x < h.cells.length) := by
  have hc : cellOk h.cells l = true := by
    simp only [heapOk, Bool.and_eq_true, List.all_eq_true] at h0
    exact h0.1.2 l (List.mem_of_getElem? hl.out)
  unfold cellOk at hc
  split at hc
  · simp only [Bool.and_eq_true, List.all_eq_true] at hc
    exact leads_range (hc.1 x (List.mem_of_getElem? hx.out))
  · simp only [Bool.and_eq_true, decide_eq_true_eq] at hc
    have := (List.getElem?_eq_some_iff.1 hx.out).1
    omega
theorem heapOk_roots (h0 : heapOk h = true) {j : Nat} {x : Int} (hx : Hid (h.roots[j]? = some x)) : x < 0 ∨ (0 ≤ x ∧ x < h.cells.length) := by
  simp only [heapOk, Bool.and_eq_true, List.all_eq_true] at h0
  exact leads_range (h0.2 x (List.mem_of_getElem? hx.out))
end

end Go.Proofs.Ytjpfgbckmcjjaaa
