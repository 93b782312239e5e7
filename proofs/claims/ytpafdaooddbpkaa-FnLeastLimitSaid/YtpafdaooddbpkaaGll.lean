/- The law FnLeastLimit's walk: with the least limit the program comes to its end, and with one less not; it is at most the peak, plus 1. For every code that can be read. Printed by genlp.py. -/
import Derived.Test.YtpafdaooddbpkaaL3
import Derived.Test.YtpafdaooddbpkaaL4
import Derived.Test.YtpafdaooddbpkaaP4
import Derived.Test.YtpafdaooddbpkaaJoP
import Derived.Test.YtpafdaooddbpkaaAl
namespace Go.Proofs.Ytpafdaooddbpkaa
open Go.RowKit
set_option maxHeartbeats 6400000 in
set_option maxRecDepth 20000 in
theorem lawLeastLimit_any (w : World) {A : Option Addr} {n c : Nat} {bs : List Int} (hr : RdY w w.heap.size A n c bs) :
    Calls Try.prog 6 #[.slice A n c] w fun e w' => e = .returned (.bool true) ∧ Below w.heap.size w w' := by
  by_cases s0 : 1048576 < n
  · go_enter Try.func6, Try.ntmps6
    go_wp2
    go_ret
    exact ⟨rfl, Below.refl _ _⟩
  go_enter Try.func6, Try.ntmps6
  go_wp2_with fail
  refine (DrawLeastLimit_any w A n c bs hr).mono ?_
  rintro e w1 ⟨v, cs, rfl, hl, H⟩
  obtain ⟨A1, c1, rfl, h1⟩ := H.formQ 0 rfl
  clear hr s0
  go_wp2_with fail
  refine (implLeastLimit_any _ _ _ _ _ cs h1).mono ?_
  rintro e w2 ⟨rfl, hb⟩
  replace H := H.call hb
  clear hb h1
  obtain ⟨A2, c2, e1, h1⟩ := H.formQ 0 rfl
  simp only [Value.slice.injEq, true_and] at e1
  obtain ⟨rfl, rfl⟩ := e1
  go_wp2_with fail
  refine (specLeastLimit_any _ _ _ _ _ cs h1).mono ?_
  rintro e w3 ⟨rfl, hb⟩
  replace H := H.call hb
  clear hb h1
  obtain ⟨A2, c2, e1, h1⟩ := H.formQ 0 rfl
  simp only [Value.slice.injEq, true_and] at e1
  obtain ⟨rfl, rfl⟩ := e1
  cases hc : cmdsOk cs
  · rw [least_bad hc]
    have HC := Go.Lib.hid hc
    clear hc
    go_wp2_with fail
    refine (specCommandsValid_any _ _ _ _ _ cs h1).mono ?_
    rintro e wy ⟨rfl, hb⟩
    rw [HC.out]
    replace H := H.call hb
    clear hb
    go_wp2_with fail
    refine (alive_any _).mono ?_
    rintro e wz ⟨rfl, hb⟩
    have HB := (H.call hb).below
    clear H hb h1
    go_wp2
    go_ret
    exact ⟨rfl, HB⟩
  obtain ⟨nn, k1, k2, k3, k4, k5, k6⟩ := least_facts hc
  rw [k3]
  have hp1 := peak_len hc
  have hl40 := (cmdsOk_iff.1 hc).2
  have HP : Hid (mPeak cs = ((peakTo cs cs.length : Nat) : Int)) := Go.Lib.hid (mPeak_yes hc)
  obtain ⟨P, hP⟩ : ∃ P, P = peakTo cs cs.length := ⟨_, rfl⟩
  rw [← hP] at hp1 k6 HP
  have HY := Go.Lib.hid k4
  have HN := Go.Lib.hid k5
  clear hc hP k3 k4 k5
  have s1 : ¬ (nn : Int) < 0 := by omega
  have s2 : (nn : Int) ≤ (P : Int) + 1 := by omega
  go_wp2_with fail
  refine (implRunSweep_any _ _ _ _ _ cs h1 (nn : Int)).mono ?_
  rintro e w4 ⟨cv, rvs, rv, rfl, K⟩
  rw [HY.out]
  obtain ⟨X, hX⟩ : ∃ X, X = mRunSwH cs (nn : Int) := ⟨_, rfl⟩
  rw [← hX] at K
  replace H := H.merge K
  simp only [List.cons_append, List.nil_append] at H
  clear K h1 hX
  obtain ⟨C, kC, rfl, -⟩ := H.formC 0 rfl
  obtain ⟨R, kR, rfl, -⟩ := H.formI 1 rfl
  replace H := (H.box [.slice C X.cells.length kC, .slice R X.roots.length kR] 32).order [3] (L' := [.cmds (.slice A1 cs.length c1) cs]) (by decide) rfl
  obtain ⟨A2, c2, e1, h1⟩ := H.formQ 0 rfl
  simp only [Value.slice.injEq, true_and] at e1
  obtain ⟨rfl, rfl⟩ := e1
  go_wp2_with fail
  refine (implRunSweep_any _ _ _ _ _ cs h1 ((nn : Int) - 1)).mono ?_
  rintro e w5 ⟨cv, rvs, rv, rfl, K⟩
  rw [HN.out]
  obtain ⟨X, hX⟩ : ∃ X, X = mRunSwH cs ((nn : Int) - 1) := ⟨_, rfl⟩
  rw [← hX] at K
  replace H := H.merge K
  simp only [List.cons_append, List.nil_append] at H
  clear K h1 hX
  obtain ⟨C, kC, rfl, -⟩ := H.formC 0 rfl
  obtain ⟨R, kR, rfl, -⟩ := H.formI 1 rfl
  replace H := (H.box [.slice C X.cells.length kC, .slice R X.roots.length kR] 32).order [3] (L' := [.cmds (.slice A1 cs.length c1) cs]) (by decide) rfl
  obtain ⟨A2, c2, e1, h1⟩ := H.formQ 0 rfl
  simp only [Value.slice.injEq, true_and] at e1
  obtain ⟨rfl, rfl⟩ := e1
  go_wp2_with fail
  refine (implPeakLive_any _ _ _ _ _ cs h1).mono ?_
  rintro e w6 ⟨rfl, hb⟩
  rw [HP.out]
  have HB := (H.call hb).below
  clear H hb h1
  go_wp2
  go_ret
  exact ⟨rfl, HB⟩
end Go.Proofs.Ytpafdaooddbpkaa
