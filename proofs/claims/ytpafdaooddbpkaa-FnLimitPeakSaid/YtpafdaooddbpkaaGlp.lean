/- The law FnLimitPeak's walk: with a limit of the peak, plus 1, a program comes to its end. For every code that can be read. Printed by genlp.py. -/
import Derived.Test.YtpafdaooddbpkaaP3
import Derived.Test.YtpafdaooddbpkaaP4
import Derived.Test.YtpafdaooddbpkaaS6
import Derived.Test.YtpafdaooddbpkaaJoP
import Derived.Test.YtpafdaooddbpkaaAl
namespace Go.Proofs.Ytpafdaooddbpkaa
open Go.RowKit
set_option maxHeartbeats 6400000 in
set_option maxRecDepth 20000 in
theorem lawLimitPeak_any (w : World) {A : Option Addr} {n c : Nat} {bs : List Int} (hr : RdY w w.heap.size A n c bs) :
    Calls Try.prog 4 #[.slice A n c] w fun e w' => e = .returned (.bool true) ∧ Below w.heap.size w w' := by
  by_cases s0 : 1048576 < n
  · go_enter Try.func4, Try.ntmps4
    go_wp2
    go_ret
    exact ⟨rfl, Below.refl _ _⟩
  go_enter Try.func4, Try.ntmps4
  go_wp2_with fail
  refine (DrawPeakLive_any w A n c bs hr).mono ?_
  rintro e w1 ⟨v, cs, rfl, hl, H⟩
  obtain ⟨A1, c1, rfl, h1⟩ := H.formQ 0 rfl
  clear hr s0
  go_wp2_with fail
  refine (implPeakLive_any _ _ _ _ _ cs h1).mono ?_
  rintro e w2 ⟨rfl, hb⟩
  replace H := H.call hb
  clear hb h1
  obtain ⟨A2, c2, e1, h1⟩ := H.formQ 0 rfl
  simp only [Value.slice.injEq, true_and] at e1
  obtain ⟨rfl, rfl⟩ := e1
  go_wp2_with fail
  refine (specPeakLive_any _ _ _ _ _ cs h1).mono ?_
  rintro e w3 ⟨rfl, hb⟩
  replace H := H.call hb
  clear hb h1
  obtain ⟨A2, c2, e1, h1⟩ := H.formQ 0 rfl
  simp only [Value.slice.injEq, true_and] at e1
  obtain ⟨rfl, rfl⟩ := e1
  cases hc : cmdsOk cs
  · rw [mPeak_no hc]
    clear hc
    go_wp2_with fail
    refine (alive_any _).mono ?_
    rintro e wz ⟨rfl, hb⟩
    have HB := (H.call hb).below
    clear H hb h1
    go_wp2
    go_ret
    exact ⟨rfl, HB⟩
  rw [mPeak_yes hc]
  have hp1 := peak_len hc
  have hl40 := (cmdsOk_iff.1 hc).2
  obtain ⟨P, hP⟩ : ∃ P, P = peakTo cs cs.length := ⟨_, rfl⟩
  obtain ⟨L, hL⟩ : ∃ L, L = min 40 (P + 1) := ⟨_, rfl⟩
  have HY := Go.Lib.hid (sw_peak hc (L := L) (by omega) (by omega) (by omega))
  obtain ⟨-, f2, -, -, -⟩ := sw_facts (L := L) hc (by omega) (by omega)
  rw [← hP] at hp1 ⊢
  clear hc hP
  have s1 : ¬ (P : Int) < 0 := by omega
  obtain ⟨X, hX⟩ : ∃ X, X = mRunSwH cs (L : Int) := ⟨_, rfl⟩
  rw [← hX] at f2
  have HX := Go.Lib.hid hX
  have s9 : (X.cells.length : Int) ≤ (P : Int) + 1 := by omega
  have HLp : Hid (L ≤ P + 1) := Go.Lib.hid (by omega)
  clear hX f2
  by_cases h40 : P + 1 < 40
  · have s2 : (P : Int) + 1 < 40 := by omega
    have s3 : ¬ (40 : Int) ≤ (P : Int) + 1 := by omega
    have hL2 : L = P + 1 := by omega
    have HL : Hid ((P : Int) + 1 = (L : Int)) := Go.Lib.hid (by omega)
    clear hL h40 hL2
    go_wp2_with fail
    (try rw [if_pos (by omega)])
    (try rw [if_neg (by omega)])
    rw [HL.out]
    refine (implRunSweep_any _ _ _ _ _ cs h1 (L : Int)).mono ?_
    rintro e w4 ⟨cv, rvs, rv, rfl, K⟩
    rw [HY.out]
    rw [← HX.out] at K
    replace H := H.merge K
    simp only [List.cons_append, List.nil_append] at H
    clear K h1
    obtain ⟨C, kC, rfl, -⟩ := H.formC 0 rfl
    obtain ⟨R, kR, rfl, -⟩ := H.formI 1 rfl
    have H7 := H.box [.slice C X.cells.length kC, .slice R X.roots.length kR] 32
    obtain ⟨x0, x1, -, -⟩ := H7.box2 0 rfl
    have HB := H7.below
    clear H H7
    go_wp2
    go_ret
    exact ⟨rfl, HB⟩
  · have s2 : ¬ (P : Int) + 1 < 40 := by omega
    have s3 : (40 : Int) ≤ (P : Int) + 1 := by omega
    have HL : Hid ((40 : Int) = (L : Int)) := Go.Lib.hid (by omega)
    clear hL h40
    go_wp2_with fail
    (try rw [if_pos (by omega)])
    (try rw [if_neg (by omega)])
    rw [HL.out]
    refine (implRunSweep_any _ _ _ _ _ cs h1 (L : Int)).mono ?_
    rintro e w4 ⟨cv, rvs, rv, rfl, K⟩
    rw [HY.out]
    rw [← HX.out] at K
    replace H := H.merge K
    simp only [List.cons_append, List.nil_append] at H
    clear K h1
    obtain ⟨C, kC, rfl, -⟩ := H.formC 0 rfl
    obtain ⟨R, kR, rfl, -⟩ := H.formI 1 rfl
    have H7 := H.box [.slice C X.cells.length kC, .slice R X.roots.length kR] 32
    obtain ⟨x0, x1, -, -⟩ := H7.box2 0 rfl
    have HB := H7.below
    clear H H7
    go_wp2
    go_ret
    exact ⟨rfl, HB⟩
end Go.Proofs.Ytpafdaooddbpkaa
