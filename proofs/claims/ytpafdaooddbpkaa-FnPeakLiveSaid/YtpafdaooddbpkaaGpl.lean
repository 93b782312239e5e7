/- The law FnPeakLive's walk: at the end at most as many cells can be reached as the peak says; a part of the program has not a greater peak. For every code that can be read. Printed by genlp.py. -/
import Derived.Test.YtpafdaooddbpkaaP3
import Derived.Test.YtpafdaooddbpkaaP4
import Derived.Test.YtpafdaooddbpkaaJoP
import Derived.Test.YtpafdaooddbpkaaAl
namespace Go.Proofs.Ytpafdaooddbpkaa
open Go.RowKit
set_option maxHeartbeats 6400000 in
set_option maxRecDepth 20000 in
theorem lawPeakLive_any (w : World) {A : Option Addr} {n c : Nat} {bs : List Int} (hr : RdY w w.heap.size A n c bs) :
    Calls Try.prog 3 #[.slice A n c] w fun e w' => e = .returned (.bool true) ∧ Below w.heap.size w w' := by
  by_cases s0 : 1048576 < n
  · go_enter Try.func3, Try.ntmps3
    go_wp2
    go_ret
    exact ⟨rfl, Below.refl _ _⟩
  go_enter Try.func3, Try.ntmps3
  go_wp2_with fail
  refine (DrawPeakLive_any w A n c bs hr).mono ?_
  rintro e w1 ⟨v, cs, rfl, hl, H⟩
  obtain ⟨A1, c1, rfl, h1⟩ := H.formQ 0 rfl
  clear hr s0
  go_wp2_with fail
  refine (implPeakLive_any _ _ _ _ _ cs h1).mono ?_
  rintro e w2 ⟨rfl, hb⟩
  replace H := H.call hb
  clear hb h1
  obtain ⟨A2, c2, e1, h1⟩ := H.formQ 0 rfl
  simp only [Value.slice.injEq, true_and] at e1
  obtain ⟨rfl, rfl⟩ := e1
  go_wp2_with fail
  refine (specPeakLive_any _ _ _ _ _ cs h1).mono ?_
  rintro e w3 ⟨rfl, hb⟩
  replace H := H.call hb
  clear hb h1
  obtain ⟨A2, c2, e1, h1⟩ := H.formQ 0 rfl
  simp only [Value.slice.injEq, true_and] at e1
  obtain ⟨rfl, rfl⟩ := e1
  cases hc : cmdsOk cs
  · rw [mPeak_no hc]
    clear hc
    go_wp2_with fail
    refine (alive_any _).mono ?_
    rintro e wz ⟨rfl, hb⟩
    have HB := (H.call hb).below
    clear H hb h1
    go_wp2
    go_ret
    exact ⟨rfl, HB⟩
  rw [mPeak_yes hc]
  have HC := Go.Lib.hid hc
  have hp1 := peak_len hc
  have hp2 := peak_live hc
  obtain ⟨hp3, hp4⟩ := peak_half hc (cs.length / 2) (by omega)
  obtain ⟨P, hP⟩ : ∃ P, P = peakTo cs cs.length := ⟨_, rfl⟩
  obtain ⟨P2, hP2⟩ : ∃ P, P = peakTo cs (cs.length / 2) := ⟨_, rfl⟩
  rw [← hP] at hp1 hp2 hp4 ⊢
  rw [← hP2] at hp3 hp4
  have HH := Go.Lib.hid hp3
  clear hc hP hP2 hp3
  have s1 : ¬ (P : Int) < 0 := by omega
  go_wp2_with fail
  refine (implRunHeap_any _ _ _ _ _ cs h1).mono ?_
  rintro e w4 ⟨cv, rvs, rv, rfl, K⟩
  replace H := H.merge K
  simp only [List.cons_append, List.nil_append] at H
  obtain ⟨T, hT⟩ : ∃ T, T = mRun cs := ⟨_, rfl⟩
  have HOK := Go.Lib.hid (run_ok HC.out)
  rw [← hT] at H hp2 HOK
  clear hT K h1
  obtain ⟨C, kC, rfl, -⟩ := H.formC 0 rfl
  obtain ⟨R, kR, rfl, -⟩ := H.formI 1 rfl
  go_wp2_with fail
  refine (implUsedCells2_any _ _ _ T (H.rdH 0 1 rfl rfl) HOK.out).mono ?_
  rintro e w5 ⟨rfl, hb⟩
  rw [live_cnt HOK.out]
  replace H := H.call hb
  obtain ⟨lv, hlv⟩ : ∃ l, l = liveN T := ⟨_, rfl⟩
  rw [← hlv] at hp2 ⊢
  clear hlv hb
  obtain ⟨A2, c2, e1, h1⟩ := H.formQ 2 rfl
  simp only [Value.slice.injEq, true_and] at e1
  obtain ⟨rfl, rfl⟩ := e1
  have s2 : (lv : Int) ≤ (P : Int) := by omega
  have s3 : (P2 : Int) ≤ (P : Int) := by omega
  have s4 : (P : Int) ≤ (cs.length : Int) := by omega
  have hcap := h1.cap
  obtain ⟨mm, hmm⟩ : ∃ m, m = cs.length / 2 := ⟨_, rfl⟩
  have hml : mm ≤ cs.length := by omega
  have s5 : (0 : Int) ≤ (mm : Int) := by omega
  have s6 : (mm : Int) ≤ (c1 : Int) := by omega
  have s7 : (cs.length : Int).tdiv 2 = (mm : Int) := by rw [hmm]; rfl
  rw [← hmm] at HH
  clear hmm
  go_wp2_with fail
  refine (implPeakLive_any _ _ _ _ _ (cs.take mm) (h1.cutN mm hml)).mono ?_
  rintro e w6 ⟨rfl, hb⟩
  rw [HH.out]
  have HB := (H.call hb).below
  clear H hb h1
  go_wp2
  go_ret
  exact ⟨rfl, HB⟩
end Go.Proofs.Ytpafdaooddbpkaa
