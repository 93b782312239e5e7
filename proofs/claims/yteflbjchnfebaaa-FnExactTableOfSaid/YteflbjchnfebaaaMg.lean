/- What a callee made is owned too; tables and heaps that are owned can be read. No program is walked. -/
import Derived.Test.YteflbjchnfebaaaMo
namespace Go.Proofs.Yteflbjchnfebaaa
open Go.RowKit
section
variable {lo lo' : Nat} {w0 w w' : World} {X : OB} {L M : List OB}
theorem OB.holds.low (h : X.holds lo w) (hl : lo' ≤ lo) : X.holds lo' w := by
  cases X with
  | box g vs t => exact ⟨Nat.le_trans hl h.1, h.2⟩
  | row e s v n ys => exact own_lo h hl
  | cells v rvs cs => exact OwC.wide h hl (Nat.le_refl _)
theorem Owns.merge (h : Owns lo w0 w L) (k : Owns w.heap.size w w' M) : Owns lo w0 w' (M ++ L) := by
  have hc := h.call k.below
  refine ⟨hc.below, hc.le, fun i X hX => ?_, fun i j X Y hij hX hY b hb hb' => ?_⟩
  · rcases Nat.lt_or_ge i M.length with hi | hi
    · rw [List.getElem?_append_left hi] at hX; exact (k.holds i X hX).low h.le
    · rw [List.getElem?_append_right hi] at hX; exact hc.holds _ X hX
  · rcases Nat.lt_or_ge i M.length with hi | hi
    · rw [List.getElem?_append_left hi] at hX
      rcases Nat.lt_or_ge j M.length with hj | hj
      · rw [List.getElem?_append_left hj] at hY; exact k.apart i j X Y hij hX hY b hb hb'
      · rw [List.getElem?_append_right hj] at hY
        have h1 := ((k.holds i X hX).lt b hb).1
        have h2 := ((h.holds _ Y hY).lt b hb').2
        omega
    · rw [List.getElem?_append_right hi] at hX
      rcases Nat.lt_or_ge j M.length with hj | hj
      · rw [List.getElem?_append_left hj] at hY
        have h1 := ((k.holds j Y hY).lt b hb').1
        have h2 := ((h.holds _ X hX).lt b hb).2
        omega
      · rw [List.getElem?_append_right hj] at hY; exact hc.apart _ _ X Y (by omega) hX hY b hb hb'
theorem Owns.mergeT {v : Value} {t : Tbl} (h : Owns lo w0 w L) (k : OwT w' w.heap.size w v t []) : OwT w' lo w0 v t L := by
  obtain ⟨cv, rvs, rv, hv, e, K⟩ := k
  exact ⟨cv, rvs, rv, hv, e, h.merge K⟩
theorem Owns.rdH (h : Owns lo w0 w L) (i j : Nat) {cv rv : Value} {rvs : List Value} {cs : List Cel} {rs : List Int} (hX : L[i]? = some (.cells cv rvs cs)) (hY : L[j]? = some (.ints rv rs)) : RdH w w.heap.size (.agg #[cv, rv]) ⟨cs, rs⟩ := by
  obtain ⟨A, a, rfl, h1⟩ := h.formC i hX
  obtain ⟨C, c, rfl, h2⟩ := h.formI j hY
  exact ⟨_, _, _, _, _, _, rfl, h1, h2⟩
theorem Owns.rdT (h : Owns lo w0 w L) (i j k : Nat) {cv rv hv : Value} {rvs : List Value} {cs : List Cel} {rs hs : List Int} (hX : L[i]? = some (.cells cv rvs cs)) (hY : L[j]? = some (.ints rv rs)) (hZ : L[k]? = some (.ints hv hs)) : RdT w w.heap.size (.agg #[cv, rv, hv]) ⟨⟨cs, rs⟩, hs⟩ := by
  obtain ⟨A, a, rfl, h1⟩ := h.formC i hX
  obtain ⟨C, c, rfl, h2⟩ := h.formI j hY
  obtain ⟨E, e, rfl, h3⟩ := h.formI k hZ
  exact ⟨_, _, _, _, _, _, _, _, _, rfl, h1, h2, h3⟩
end
end Go.Proofs.Yteflbjchnfebaaa
