/- Marking what a call owns (rows, cells, heaps); what a callee made is owned too; heaps that are owned can be read. -/
import Derived.Test.YtlhecfpflkioeaaSt
import Derived.Test.YtlhecfpflkioeaaHd
namespace Go.Proofs.Ytlhecfpflkioeaa
open Go.RowKit
section
variable {lo : Nat} {w0 w : World} {L : List OB}
end
section
variable {lo lo' : Nat} {w0 w w' : World} {X : OB} {L M : List OB}
theorem OB.holds.low (h : X.holds lo w) (hl : lo' ≤ lo) : X.holds lo' w := by
  cases X with
  | box g vs t => exact ⟨Nat.le_trans hl h.1, h.2⟩
  | row e s v n ys => exact own_lo h hl
  | cells v rvs cs => exact OwC.wide h hl (Nat.le_refl _)
theorem Owns.merge (h : Owns lo w0 w L) (k : Owns w.heap.size w w' M) : Owns lo w0 w' (M ++ L) := by
  have hc := h.call k.below
  refine ⟨hc.below, hc.le, fun i X hX => ?_, fun i j X Y hij hX hY b hb hb' => ?_⟩
  · rcases Nat.lt_or_ge i M.length with hi | hi
    · rw [List.getElem?_append_left hi] at hX; exact (k.holds i X hX).low h.le
    · rw [List.getElem?_append_right hi] at hX; exact hc.holds _ X hX
  · rcases Nat.lt_or_ge i M.length with hi | hi
    · rw [List.getElem?_append_left hi] at hX
      rcases Nat.lt_or_ge j M.length with hj | hj
      · rw [List.getElem?_append_left hj] at hY; exact k.apart i j X Y hij hX hY b hb hb'
      · rw [List.getElem?_append_right hj] at hY
        have h1 := ((k.holds i X hX).lt b hb).1
        have h2 := ((h.holds _ Y hY).lt b hb').2
        omega
    · rw [List.getElem?_append_right hi] at hX
      rcases Nat.lt_or_ge j M.length with hj | hj
      · rw [List.getElem?_append_left hj] at hY
        have h1 := ((k.holds j Y hY).lt b hb').1
        have h2 := ((h.holds _ X hX).lt b hb).2
        omega
      · rw [List.getElem?_append_right hj] at hY; exact hc.apart _ _ X Y (by omega) hX hY b hb hb'
theorem Owns.rdH (h : Owns lo w0 w L) (i j : Nat) {cv rv : Value} {rvs : List Value} {cs : List Cel} {rs : List Int} (hX : L[i]? = some (.cells cv rvs cs)) (hY : L[j]? = some (.ints rv rs)) : RdH w w.heap.size (.agg #[cv, rv]) ⟨cs, rs⟩ := by
  obtain ⟨A, a, rfl, h1⟩ := h.formC i hX
  obtain ⟨C, c, rfl, h2⟩ := h.formI j hY
  exact ⟨_, _, _, _, _, _, rfl, h1, h2⟩
end
end Go.Proofs.Ytlhecfpflkioeaa
