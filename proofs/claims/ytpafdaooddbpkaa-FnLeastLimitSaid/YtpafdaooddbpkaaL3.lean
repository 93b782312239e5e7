/- The least limit with which a program comes to its end, by the reference. For every program that can be read. -/
import Derived.Test.YtpafdaooddbpkaaS5
namespace Go.Proofs.Ytpafdaooddbpkaa
open Go.RowKit
set_option maxHeartbeats 3200000 in
set_option maxRecDepth 20000 in
theorem specLeastLimit_any (w : World) (B : Nat) (A : Option Addr) (n c : Nat) (cs : List Cmd) (hr : RdQ w B A n c cs) :
    Calls Try.prog 23 #[.slice A n c] w fun e w' => e = .returned (.int .i64 (mLeast cs)) ∧ Below w.heap.size w w' := by
  have hr := hr.top
  have H := Owns.nil w
  cases hc : cmdsOk cs
  · have HF := Go.Lib.hid (least_bad hc)
    have HC := Go.Lib.hid hc
    clear hc
    go_enter Try.func23, Try.ntmps23
    go_wp2_with fail
    go_loopw [3] (fun i wr => i = .int .i64 1 ∧ Owns w.heap.size w wr []) (fun _ _ => 0)
    case atStart => exact ⟨rfl, H⟩
    case round =>
      clear H
      obtain ⟨rfl, H⟩ := hrel
      go_wp2_with fail
      refine (specCommandsValid_any _ _ _ _ _ cs (hr.below H.below)).mono ?_
      rintro e w1 ⟨rfl, hb⟩
      rw [HC.out]
      have HB := (H.call hb).below
      clear H hb
      go_wp2
      go_ret
      exact ⟨ret_i HF.out.symm, HB⟩
  have HC := Go.Lib.hid hc
  clear hc
  go_enter Try.func23, Try.ntmps23
  go_wp2_with fail
  go_loopw [3] (fun i wr => ∃ (m : Nat), i = .int .i64 (m : Nat) ∧ 1 ≤ m ∧ m ≤ 41 ∧ Hid (∀ j : Nat, j + 1 < m → mRunSwB cs ((j : Int) + 1) = false) ∧ Owns w.heap.size w wr []) (fun i _ => 41 - (intOf i).toNat)
  case atStart => exact ⟨1, rfl, Nat.le_refl _, by omega, Go.Lib.hid fun j hj => by omega, H⟩
  case round =>
    clear H
    obtain ⟨m, rfl, h1, h2, hs, H⟩ := hrel
    by_cases hlt : m ≤ 40
    · go_wp2_with fail
      refine (specCommandsValid_any _ _ _ _ _ cs (hr.below H.below)).mono ?_
      rintro e w1 ⟨rfl, hb⟩
      rw [HC.out]
      replace H := H.call hb
      clear hb
      go_wp2_with fail
      refine (specRunSweep_any _ _ _ _ _ cs (hr.below H.below) (m : Int)).mono ?_
      rintro e w2 ⟨cv, rvs, rv, rfl, K⟩
      replace H := H.merge K
      simp only [List.cons_append, List.nil_append] at H
      clear K
      obtain ⟨X, hX⟩ : ∃ X, X = mRunSwH cs (m : Int) := ⟨_, rfl⟩
      rw [← hX] at H
      clear hX
      obtain ⟨C, kC, rfl, -⟩ := H.formC 0 rfl
      obtain ⟨R, kR, rfl, -⟩ := H.formI 1 rfl
      have HZ := (H.box [.slice C X.cells.length kC, .slice R X.roots.length kR] 32).take 0
      simp only [List.take_zero] at HZ
      have HB := HZ.below
      clear H
      cases hb : mRunSwB cs (m : Int)
      · have HS : Hid (∀ j : Nat, j + 1 < m + 1 → mRunSwB cs ((j : Int) + 1) = false) := Go.Lib.hid fun j hj => by
          by_cases e : j + 1 = m
          · rw [show ((j : Int) + 1) = (m : Int) by omega]; exact hb
          · exact hs.out j (by omega)
        clear hb hs HB
        go_wp2_with fail
        go_roundw
        case rel => exact ⟨m + 1, by go_num, by omega, by omega, HS, HZ⟩
        case measure => simp [intOf]; omega
      · have HF : Hid (mLeast cs = (m : Int)) := Go.Lib.hid (by
          have e : (((m - 1 : Nat) : Int) + 1) = (m : Int) := by omega
          rw [least_at (k := m - 1) (by omega) (fun i hi => hs.out i (by omega)) (by rw [e]; exact hb), e])
        clear hb hs HZ
        go_wp2
        go_ret
        exact ⟨ret_i HF.out.symm, HB⟩
    · have HF : Hid (mLeast cs = -1) := Go.Lib.hid (least_no fun i hi => hs.out i (by omega))
      have HB := H.below
      clear H hs
      go_wp2
      go_ret
      exact ⟨ret_i HF.out.symm, HB⟩
end Go.Proofs.Ytpafdaooddbpkaa
