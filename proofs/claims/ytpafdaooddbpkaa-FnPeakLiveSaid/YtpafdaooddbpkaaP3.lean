/- The peak of a program: the greatest number of cells that can be reached at the same time, by the reference and by the program. For every program that can be read. -/
import Derived.Test.YtpafdaooddbpkaaRi
import Derived.Test.YtpafdaooddbpkaaUs
import Derived.Test.YtpafdaooddbpkaaUc2
import Derived.Test.YtpafdaooddbpkaaZ3
namespace Go.Proofs.Ytpafdaooddbpkaa
open Go.RowKit
theorem RdQ.cutN {w : World} {B : Nat} {A : Option Addr} {n c : Nat} {cs : List Cmd} (h : RdQ w B A n c cs) (m : Nat) (hm : m ≤ n) : RdQ w B A m c (cs.take m) := by
  have hl := h.len
  refine ⟨by simp; omega, by have := h.cap; omega, h.mx, fun h0 => ?_⟩
  obtain ⟨b, o, hA, hlt, hc⟩ := h.rd (by omega)
  refine ⟨b, o, hA, hlt, fun j p hj => hc j p ?_⟩
  rw [List.getElem?_take] at hj
  split at hj
  · exact hj
  · cases hj
theorem peak_next (cs : List Cmd) (k : Nat) : peakTo cs (k + 1 - 1) = max (peakTo cs (k - 1)) (liveAt cs k) := by
  cases k with
  | zero => rw [liveAt_zero]; rfl
  | succ k => rfl
theorem liveAt_of {cs : List Cmd} {k : Nat} {h : Hp} (hh : h = runTo (cs.take k)) : liveN h = liveAt cs k := by rw [hh]; rfl
set_option maxHeartbeats 3200000 in
set_option maxRecDepth 20000 in
theorem specPeakLive_any (w : World) (B : Nat) (A : Option Addr) (n c : Nat) (cs : List Cmd) (hr : RdQ w B A n c cs) :
    Calls Try.prog 11 #[.slice A n c] w fun e w' => e = .returned (.int .i64 (mPeak cs)) ∧ Below w.heap.size w w' := by
  have hr := hr.top
  have hcap := hr.cap
  have hmx := hr.mx
  unfold maxLen at hmx
  have HL := Go.Lib.hid hr.len
  have H := Owns.nil w
  go_enter Try.func11, Try.ntmps11
  go_wp2_with fail
  refine (specCommandsValid_any _ _ _ _ _ cs (hr.below H.below)).mono ?_
  rintro e w1 ⟨rfl, hb⟩
  replace H := H.call hb
  clear hb
  cases hc : cmdsOk cs
  · have HF := Go.Lib.hid (mPeak_no hc)
    have HB := H.below
    clear hc H
    go_wp2
    go_ret
    exact ⟨ret_i HF.out.symm, HB⟩
  have HF : Hid (mPeak cs = ((peakTo cs n : Nat) : Int)) := Go.Lib.hid (by rw [mPeak_yes hc, HL.out])
  have HC := Go.Lib.hid hc
  have hn40 : n ≤ 40 := by rw [HL.out]; exact (cmdsOk_iff.1 hc).2
  have HLE := Go.Lib.hid (fun k => (liveAt_le (cmdsOk_iff.1 hc).1 k).1)
  have HPK := Go.Lib.hid (fun k (hk : k ≤ n) => show peakTo cs k ≤ 40 from Nat.le_trans (peakTo_mono cs (by have := HL.out; omega : k ≤ cs.length)) (Nat.le_trans (peak_len hc) (by have := HL.out; omega)))
  clear hc
  go_wp2_with fail
  go_loopw [3, 4] (fun m i wr => ∃ (k : Nat), m = .int .i64 ((peakTo cs (k - 1) : Nat) : Int) ∧ i = .int .i64 k ∧ k ≤ n + 1 ∧ Owns w.heap.size w wr []) (fun _ i _ => n + 1 - (intOf i).toNat)
  case atStart => exact ⟨0, rfl, rfl, Nat.zero_le _, H⟩
  case round =>
    clear H
    obtain ⟨k, rfl, rfl, hk, H⟩ := hrel
    by_cases hlt : k ≤ n
    · have i1 : (0 : Int) ≤ (k : Int) := by omega
      have i2 : (k : Int) ≤ (c : Int) := by omega
      have hp := HPK.out (k - 1) (by omega)
      have hq := HLE.out k
      have HN := Go.Lib.hid (peak_next cs k)
      obtain ⟨a, ha⟩ : ∃ a, a = peakTo cs (k - 1) := ⟨_, rfl⟩
      rw [← ha] at hp HN ⊢
      clear ha
      go_wp2_with fail
      refine (specRunHeap_any _ _ _ _ _ (cs.take k) ((hr.cutN k hlt).below H.below)).mono ?_
      rintro e w2 ⟨cv, rvs, rv, rfl, K⟩
      rw [mRun_take HC.out] at K
      replace H := H.merge K
      simp only [List.cons_append, List.nil_append] at H
      clear K
      obtain ⟨T, hT⟩ : ∃ T, T = runTo (cs.take k) := ⟨_, rfl⟩
      have HT := Go.Lib.hid (liveAt_of hT)
      have HG : Hid (heapOk T = true) := Go.Lib.hid (by rw [hT]; exact good_iff.2 (runTo_ok (cmdsOk_iff.1 HC.out).1 k))
      rw [← hT] at H
      clear hT
      obtain ⟨C, kC, rfl, -⟩ := H.formC 0 rfl
      obtain ⟨R, kR, rfl, -⟩ := H.formI 1 rfl
      go_wp2_with fail
      refine (specUsedCells_any _ _ _ T (H.rdH 0 1 rfl rfl) HG.out).mono ?_
      rintro e w3 ⟨rfl, hb⟩
      rw [HT.out]
      have HZ := (H.call hb).take 0
      simp only [List.take_zero] at HZ
      obtain ⟨b, hb2⟩ : ∃ b, b = liveAt cs k := ⟨_, rfl⟩
      rw [← hb2] at hq HN ⊢
      clear H hb hb2 HT HG
      by_cases hab : a < b
      · have HM : Hid (peakTo cs (k + 1 - 1) = b) := Go.Lib.hid (by rw [HN.out]; omega)
        have q1 : (a : Int) < (b : Int) := by omega
        have q2 : ¬ (b : Int) ≤ (a : Int) := by omega
        clear hab
        go_wp2_with fail
        go_roundw
        case rel => exact ⟨k + 1, by rw [HM.out], by go_num, by omega, HZ⟩
        case measure => simp [intOf]; omega
      · have HM : Hid (peakTo cs (k + 1 - 1) = a) := Go.Lib.hid (by rw [HN.out]; omega)
        have q1 : ¬ (a : Int) < (b : Int) := by omega
        have q2 : (b : Int) ≤ (a : Int) := by omega
        clear hab
        go_wp2_with fail
        go_roundw
        case rel => exact ⟨k + 1, by rw [HM.out], by go_num, by omega, HZ⟩
        case measure => simp [intOf]; omega
    · have HE : Hid (mPeak cs = ((peakTo cs (k - 1) : Nat) : Int)) := Go.Lib.hid (by rw [HF.out, show k - 1 = n by omega])
      have HB := H.below
      clear H
      go_wp2
      go_ret
      exact ⟨ret_i HE.out.symm, HB⟩
end Go.Proofs.Ytpafdaooddbpkaa
