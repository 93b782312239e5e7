/- Tables that a callee made are owned too, and can be read. No program is walked. -/
import Derived.Test.YtcekohpekpkobaaZ1
import Derived.Test.YtcekohpekpkobaaZ0
namespace Go.Proofs.Ytcekohpekpkobaa
open Go.RowKit
section
variable {lo : Nat} {w0 w w' : World} {L : List OB}
theorem Owns.mergeT {v : Value} {t : Tbl} (h : Owns lo w0 w L) (k : OwT w' w.heap.size w v t []) : OwT w' lo w0 v t L := by
  obtain ⟨cv, rvs, rv, hv, e, K⟩ := k
  exact ⟨cv, rvs, rv, hv, e, h.merge K⟩
theorem Owns.rdT (h : Owns lo w0 w L) (i j k : Nat) {cv rv hv : Value} {rvs : List Value} {cs : List Cel} {rs hs : List Int} (hX : L[i]? = some (.cells cv rvs cs)) (hY : L[j]? = some (.ints rv rs)) (hZ : L[k]? = some (.ints hv hs)) : RdT w w.heap.size (.agg #[cv, rv, hv]) ⟨⟨cs, rs⟩, hs⟩ := by
  obtain ⟨A, a, rfl, h1⟩ := h.formC i hX
  obtain ⟨C, c, rfl, h2⟩ := h.formI j hY
  obtain ⟨E, e, rfl, h3⟩ := h.formI k hZ
  exact ⟨_, _, _, _, _, _, _, _, _, rfl, h1, h2, h3⟩
end
theorem OwT.rd {w w0 : World} {lo : Nat} {v : Value} {t : Tbl} (h : OwT w lo w0 v t []) : RdT w w.heap.size v t ∧ Below lo w0 w := by
  obtain ⟨cv, rvs, rv, hv, rfl, H⟩ := h
  obtain ⟨A, a, rfl, h1⟩ := H.formC 0 rfl
  obtain ⟨C, c, rfl, h2⟩ := H.formI 1 rfl
  obtain ⟨E, e, rfl, h3⟩ := H.formI 2 rfl
  exact ⟨⟨_, _, _, _, _, _, _, _, _, rfl, h1, h2, h3⟩, H.below⟩
end Go.Proofs.Ytcekohpekpkobaa
