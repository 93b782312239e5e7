/- The reference's Reachable marks what can be reached from the roots of a valid heap. -/
import Derived.Test.YtjpfgbckmcjjaaaRch
namespace Go.Proofs.Ytjpfgbckmcjjaaa
open Go.RowKit
noncomputable def mReachable (h : Hp) : List Bool := if heapOk h then reachL h.cells h.roots else []
theorem mReachable_no {h : Hp} (h0 : heapOk h = false) : mReachable h = [] := by simp [mReachable, h0]
theorem mReachable_yes {h : Hp} (h0 : heapOk h = true) : mReachable h = reachL h.cells h.roots := by simp [mReachable, h0]
theorem specReachable_any (w : World) (B : Nat) (v : Value) (h : Hp) (hh : RdH w B v h) :
    Calls Try.prog 82 #[v] w (MadeB w (mReachable h)) := by
  have hh' := hh.top
  obtain ⟨D, m, d, D', m', d', rfl, hC, hR⟩ := hh.top
  have hb1 := below_alloc w (.cells #[.slice D m d, .slice D' m' d'] 26)
  go_enter Try.func82, Try.ntmps82
  go_wp2_with fail
  refine (specHeapValid_any _ _ _ h (hh'.below hb1)).mono ?_
  rintro e w1 ⟨rfl, hb⟩
  obtain ⟨a0, a1, hbw, hz⟩ := box2 (hb.mono (by simp))
  cases hy : heapOk h
  · have HF := Go.Lib.hid (mReachable_no hy)
    go_wp2
    go_ret
    rw [HF.out]
    exact (((Owns.nil w).call hbw).lit [] 4 zero_le_maxLen).toB 0 rfl
  · have HY := Go.Lib.hid hy
    clear hy
    obtain ⟨s1, s2⟩ := heapOk_small HY.out
    obtain ⟨s3, s4⟩ := heapOk_leads HY.out
    have S := Go.Lib.hid (And.intro s3 s4)
    clear s3 s4
    go_wp2_with fail
    refine (l7Reach_any _ _ _ _ h _ _ _ h.roots (hh'.below hbw) (hR.below hbw) (by omega) S.out.1 S.out.2).mono ?_
    rintro e w2 ⟨v2, rfl, ho, hb2⟩
    have HB := hbw.trans (hb2.mono hbw.size)
    have HO := ho.wide hbw.size (Nat.le_refl _)
    clear a0 a1
    go_wp2
    go_ret
    rw [mReachable_yes HY.out]
    exact ⟨_, rfl, HO, HB⟩
end Go.Proofs.Ytjpfgbckmcjjaaa
