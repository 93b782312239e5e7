/- How many marks CollectWeak's heap takes. No program is walked. -/
import Derived.Test.YtpglhmlebcigfaaKc
import Derived.Test.YtpglhmlebcigfaaDrL
namespace Go.Proofs.Ytpglhmlebcigfaa
open Go.RowKit
theorem mCwH_len (h : Hp) (ws : List Int) : kHeap (mCwH h ws) ≤ 16777216 := by
  unfold mCwH
  cases hy : mWeakValid h ws
  · simp [kHeap, kAdd]
  · rw [if_pos rfl]
    have := heapOk_k (good_iff.2 (mCollect_good (good_iff.1 (mWeak_parts hy).1)))
    omega
end Go.Proofs.Ytpglhmlebcigfaa
