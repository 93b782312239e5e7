/- The peak of a program: the greatest number of cells that can be reached at the same time, by the reference and by the program. For every program that can be read. -/
import Derived.Test.YtdkpfggfkhnjfaaRi
import Derived.Test.YtdkpfggfkhnjfaaUs
import Derived.Test.YtdkpfggfkhnjfaaUc2
import Derived.Test.YtdkpfggfkhnjfaaZ3
namespace Go.Proofs.Ytdkpfggfkhnjfaa
open Go.RowKit
theorem RdQ.cutN {w : World} {B : Nat} {A : Option Addr} {n c : Nat} {cs : List Cmd} (h : RdQ w B A n c cs) (m : Nat) (hm : m ≤ n) : RdQ w B A m c (cs.take m) := by
  have hl := h.len
  refine ⟨by simp; omega, by have := h.cap; omega, h.mx, fun h0 => ?_⟩
  obtain ⟨b, o, hA, hlt, hc⟩ := h.rd (by omega)
  refine ⟨b, o, hA, hlt, fun j p hj => hc j p ?_⟩
  rw [List.getElem?_take] at hj
  split at hj
  · exact hj
  · cases hj
theorem peak_next (cs : List Cmd) (k : Nat) : peakTo cs (k + 1 - 1) = max (peakTo cs (k - 1)) (liveAt cs k) := by
  cases k with
  | zero => rw [liveAt_zero]; rfl
  | succ k => rfl
theorem liveAt_of {cs : List Cmd} {k : Nat} {h : Hp} (hh : h = runTo (cs.take k)) : liveN h = liveAt cs k := by rw [hh]; rfl
end Go.Proofs.Ytdkpfggfkhnjfaa
