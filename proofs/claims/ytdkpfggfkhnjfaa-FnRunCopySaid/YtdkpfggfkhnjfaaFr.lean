/- The first cell that is not used, as the program and as the reference find it; the reference's UsedCells; a limit. For every heap that can be read. -/
import Derived.Test.YtdkpfggfkhnjfaaZ3
import Derived.Test.YtdkpfggfkhnjfaaZ1
import Derived.Test.YtdkpfggfkhnjfaaZ2
namespace Go.Proofs.Ytdkpfggfkhnjfaa
open Go.RowKit
theorem isLimit_any (n : Int) (w : World) : Calls Try.prog 33 #[.int .i64 n] w fun e w' => e = .returned (.bool (inR n 1 40)) ∧ w = w' := by
  by_cases h1 : 1 ≤ n
  · by_cases h2 : n ≤ 40
    · have HF : Hid (inR n 1 40 = true) := Go.Lib.hid (by simp [inR, h1, h2])
      go_enter Try.func33, Try.ntmps33
      go_wp2
      go_ret
      exact ⟨ret_b HF.out.symm, rfl⟩
    · have HF : Hid (inR n 1 40 = false) := Go.Lib.hid (by simp [inR, h2])
      go_enter Try.func33, Try.ntmps33
      go_wp2
      go_ret
      exact ⟨ret_b HF.out.symm, rfl⟩
  · have HF : Hid (inR n 1 40 = false) := Go.Lib.hid (by simp [inR, h1])
    go_enter Try.func33, Try.ntmps33
    go_wp2
    go_ret
    exact ⟨ret_b HF.out.symm, rfl⟩
end Go.Proofs.Ytdkpfggfkhnjfaa
