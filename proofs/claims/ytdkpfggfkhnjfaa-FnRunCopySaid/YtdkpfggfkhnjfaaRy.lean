/- Runs with a limit of cells that move cells together, step by step; the facts that the laws on them say. No program. -/
import Derived.Test.YtdkpfggfkhnjfaaZ3
import Derived.Test.YtdkpfggfkhnjfaaVc
namespace Go.Proofs.Ytdkpfggfkhnjfaa
open Go.RowKit
noncomputable def mRunCpH (mv : Hp → Hp) (cs : List Cmd) (L : Int) : Hp := if cmdsOk cs && inR L 1 40 then (runCp mv L.toNat emptyH cs).1 else ⟨[], []⟩
noncomputable def mRunCpB (mv : Hp → Hp) (cs : List Cmd) (L : Int) : Bool := cmdsOk cs && inR L 1 40 && (runCp mv L.toNat emptyH cs).2
section
variable {mv : Hp → Hp} {cs : List Cmd} {L : Nat} {LI : Int}
theorem cpB_no1 (h : cmdsOk cs = false) : mRunCpB mv cs LI = false := by simp [mRunCpB, h]
theorem cpB_no2 (h : inR LI 1 40 = false) : mRunCpB mv cs LI = false := by simp [mRunCpB, h]
theorem cpH_no1 (h : cmdsOk cs = false) : mRunCpH mv cs LI = ⟨[], []⟩ := by simp [mRunCpH, h]
theorem cpH_no2 (h : inR LI 1 40 = false) : mRunCpH mv cs LI = ⟨[], []⟩ := by simp [mRunCpH, h]
theorem cpB_yes (h : cmdsOk cs = true) (h1 : 1 ≤ L) (h2 : L ≤ 40) : mRunCpB mv cs L = (runCp mv L emptyH cs).2 := by simp [mRunCpB, h, inR_L h1 h2]
theorem cpH_yes (h : cmdsOk cs = true) (h1 : 1 ≤ L) (h2 : L ≤ 40) : mRunCpH mv cs L = (runCp mv L emptyH cs).1 := by simp [mRunCpH, h, inR_L h1 h2]
theorem cp_facts (M : Mover mv) (h : cmdsOk cs = true) (h1 : 1 ≤ L) (h2 : L ≤ 40) : heapOk (mRunCpH mv cs L) = true ∧ (mRunCpH mv cs L).cells.length ≤ L ∧ (mRunCpB mv cs L = true → mView (mRunCpH mv cs L) = mView (mRun cs)) ∧ (mRunCpB mv cs L = false → L ≤ peakTo cs cs.length) := by
  obtain ⟨k1, k2, k3, k4⟩ := runCp_facts (L := L) M h h2
  rw [cpH_yes h h1 h2, cpB_yes h h1 h2]
  refine ⟨k1, k2, k3, fun hb => fits_not fun hf => ?_⟩
  rw [k4.2 hf] at hb
  cases hb
end
section
variable {mv : Hp → Hp} {L : Nat} {h : Hp} {cs : List Cmd} {k : Nat} {p : Cmd} {r : Hp × Bool}
theorem runCp_cons (hx : Hid (cs[k]? = some p)) : runCp mv L h (cs.drop k) = if p.op = 1 ∧ L ≤ h.cells.length then (if L ≤ (mv h).cells.length then (mv h, false) else runCp mv L (mStep (mv h) p) (cs.drop (k + 1))) else runCp mv L (mStep h p) (cs.drop (k + 1)) := by
  obtain ⟨hk, rfl⟩ := List.getElem?_eq_some_iff.1 hx.out
  rw [List.drop_eq_getElem_cons hk]
  rfl
theorem runCp_stop (hx : Hid (cs[k]? = some p)) (hr : runCp mv L h (cs.drop k) = r) (h1 : p.op = 1) (h2 : L ≤ h.cells.length) (h3 : L ≤ (mv h).cells.length) : r = (mv h, false) := by
  rw [← hr, runCp_cons hx, if_pos ⟨h1, h2⟩, if_pos h3]
theorem runCp_moved (hx : Hid (cs[k]? = some p)) (hr : runCp mv L h (cs.drop k) = r) (h1 : p.op = 1) (h2 : L ≤ h.cells.length) (h3 : ¬ L ≤ (mv h).cells.length) : runCp mv L (mStep (mv h) p) (cs.drop (k + 1)) = r := by
  rw [← hr, runCp_cons hx, if_pos ⟨h1, h2⟩, if_neg h3]
theorem runCp_go (hx : Hid (cs[k]? = some p)) (hr : runCp mv L h (cs.drop k) = r) (hn : ¬ (p.op = 1 ∧ L ≤ h.cells.length)) : runCp mv L (mStep h p) (cs.drop (k + 1)) = r := by
  rw [← hr, runCp_cons hx, if_neg hn]
theorem runCp_out (hk : cs.length ≤ k) (hr : runCp mv L h (cs.drop k) = r) : r = (h, true) := by
  rw [← hr, List.drop_of_length_le hk]; rfl
end
end Go.Proofs.Ytdkpfggfkhnjfaa
