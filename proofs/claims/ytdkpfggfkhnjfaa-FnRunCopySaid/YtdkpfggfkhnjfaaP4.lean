/- The peak of a program by the program. For every program that can be read. -/
import Derived.Test.YtdkpfggfkhnjfaaP3
namespace Go.Proofs.Ytdkpfggfkhnjfaa
open Go.RowKit
set_option maxHeartbeats 3200000 in
set_option maxRecDepth 20000 in
theorem implPeakLive_any (w : World) (B : Nat) (A : Option Addr) (n c : Nat) (cs : List Cmd) (hr : RdQ w B A n c cs) :
    Calls Try.prog 12 #[.slice A n c] w fun e w' => e = .returned (.int .i64 (mPeak cs)) ∧ Below w.heap.size w w' := by
  have hr := hr.top
  obtain rfl := hr.len
  have hm := Nat.le_trans hr.cap hr.mx
  unfold maxLen at hm
  have H := Owns.nil w
  go_enter Try.func12, Try.ntmps12
  go_wp2_with fail
  refine (implCommandsValid_any _ _ _ _ _ cs (hr.below H.below)).mono ?_
  rintro e w1 ⟨rfl, hb⟩
  replace H := H.call hb
  clear hb
  cases hc : cmdsOk cs
  · have HF := Go.Lib.hid (mPeak_no hc)
    have HB := H.below
    clear hc H
    go_wp2
    go_ret
    exact ⟨ret_i HF.out.symm, HB⟩
  have HF := Go.Lib.hid (mPeak_yes hc)
  have HA := Go.Lib.hid (cmdsOk_all hc)
  have hn40 : cs.length ≤ 40 := (cmdsOk_iff.1 hc).2
  have HLE := Go.Lib.hid (fun k => (liveAt_le (cmdsOk_iff.1 hc).1 k).1)
  have HPK := Go.Lib.hid (fun k (hk : k ≤ cs.length) => show peakTo cs k ≤ 40 from Nat.le_trans (peakTo_mono cs hk) (Nat.le_trans (peak_len hc) (by omega)))
  clear hc
  go_wp2_with fail
  refine (implEmptyHeap_any _).mono ?_
  rintro e w2 ⟨cv, rvs, rv, rfl, K⟩
  replace K := H.merge K
  simp only [List.cons_append, List.nil_append] at K
  obtain ⟨C, kC, rfl, -⟩ := K.formC 0 rfl
  obtain ⟨R, kR, rfl, -⟩ := K.formI 1 rfl
  clear H
  have H3 := K.box [.slice C emptyH.cells.length kC, .slice R emptyH.roots.length kR] 29
  clear K
  go_wp2_with fail
  go_loopw [3, 15] (fun m i wr => ∃ (k : Nat) (C R : Option Addr) (kC kR : Nat) (rvs : List Value) (h : Hp), m = .int .i64 ((peakTo cs k : Nat) : Int) ∧ i = .int .i64 k ∧ k ≤ cs.length ∧ Hid (h = runTo (cs.take k)) ∧ Owns w.heap.size w wr [.box w2.heap.size [.slice C h.cells.length kC, .slice R h.roots.length kR] 29, .cells (.slice C h.cells.length kC) rvs h.cells, .ints (.slice R h.roots.length kR) h.roots]) (fun _ i _ => cs.length - (intOf i).toNat)
  case atStart => exact ⟨0, C, R, kC, kR, rvs, emptyH, rfl, rfl, Nat.zero_le _, Go.Lib.hid rfl, H3⟩
  case round =>
    clear H3
    obtain ⟨k, C, R, kC, kR, rvs, h, rfl, rfl, hk, hh, H⟩ := hrel
    by_cases hlt : k < cs.length
    · obtain ⟨b, o, p, rfl, hbb, hx, q1, q2, q3, q4⟩ := hr.at_ hlt
      have hp : cmdOk p = true := HA.out p (List.mem_of_getElem? hx.out)
      have hg : Good h := by rw [hh.out]; exact runTo_good _ fun o ho => HA.out o (List.mem_of_mem_take ho)
      have HE := Go.Lib.hid (show mStep h p = runTo (cs.take (k + 1)) by rw [take_snoc' hx, runTo_snoc, hh.out])
      have GG := Go.Lib.hid hg
      have GT := Go.Lib.hid (good_iff.2 (mStep_good hg hp))
      have HP := Go.Lib.hid hp
      have g1 := H.ro q1 hbb
      have g2 := H.ro q2 hbb
      have g3 := H.ro q3 hbb
      have g4 := H.ro q4 hbb
      have H0 := H.box [.int .i64 p.op, .int .i64 p.a, .int .i64 p.b, .int .i64 p.c] 46
      obtain ⟨x0, x1, -, -⟩ := H0.box2 1 rfl
      have ha40 := HPK.out k (by omega)
      have hq := HLE.out (k + 1)
      have HN : Hid (peakTo cs (k + 1) = max (peakTo cs k) (liveAt cs (k + 1))) := Go.Lib.hid rfl
      obtain ⟨a, ha⟩ : ∃ a, a = peakTo cs k := ⟨_, rfl⟩
      rw [← ha] at ha40 HN ⊢
      clear hp hg hh H q1 q2 q3 q4 ha
      go_wp2_with fail
      refine (implStepHeap_any _ _ _ h (H0.rdH 2 3 rfl rfl) p GG.out HP.out).mono ?_
      rintro e w4 ⟨cv, rvs', rv, rfl, K⟩
      replace K := H0.merge K
      simp only [List.cons_append, List.nil_append] at K
      obtain ⟨T, hT⟩ : ∃ T, T = mStep h p := ⟨_, rfl⟩
      rw [← hT] at K HE GT
      clear hT H0 x0 x1 g1 g2 g3 g4
      obtain ⟨C', kC', rfl, -⟩ := K.formC 0 rfl
      obtain ⟨R', kR', rfl, -⟩ := K.formI 1 rfl
      obtain ⟨x0, x1, x2, x3⟩ := K.box2 3 rfl
      have H7 := ((K.putBox 3 rfl 0 (.slice C' T.cells.length kC')).putBox 3 rfl 1 (.slice R' T.roots.length kR')).places [3, 0, 1] (by decide) (by simp)
      simp only [List.filterMap_cons, List.filterMap_nil, List.getElem?_cons_zero, List.getElem?_cons_succ, List.set_cons_zero, List.set_cons_succ] at H7
      obtain ⟨v0, v1, -, -⟩ := H7.box2 0 rfl
      clear K
      go_wp2_with fail
      refine (implUsedCells2_any _ _ _ T (H7.rdH 1 2 rfl rfl) GT.out).mono ?_
      rintro e w5 ⟨rfl, hb⟩
      rw [live_cnt GT.out, liveAt_of HE.out]
      replace H7 := H7.call hb
      obtain ⟨b2, hb2⟩ : ∃ b, b = liveAt cs (k + 1) := ⟨_, rfl⟩
      rw [← hb2] at hq HN ⊢
      clear hb hb2 x0 x1 x2 x3 v0 v1
      by_cases hab : a < b2
      · have HM : Hid (peakTo cs (k + 1) = b2) := Go.Lib.hid (by rw [HN.out]; omega)
        have q1 : (a : Int) < (b2 : Int) := by omega
        have q2 : ¬ (b2 : Int) ≤ (a : Int) := by omega
        clear hab
        go_wp2_with fail
        go_roundw
        case rel => exact ⟨k + 1, C', R', kC', kR', rvs', T, by rw [HM.out], by go_num, by omega, HE, H7⟩
        case measure => simp [intOf]; omega
      · have HM : Hid (peakTo cs (k + 1) = a) := Go.Lib.hid (by rw [HN.out]; omega)
        have q1 : ¬ (a : Int) < (b2 : Int) := by omega
        have q2 : (b2 : Int) ≤ (a : Int) := by omega
        clear hab
        go_wp2_with fail
        go_roundw
        case rel => exact ⟨k + 1, C', R', kC', kR', rvs', T, by rw [HM.out], by go_num, by omega, HE, H7⟩
        case measure => simp [intOf]; omega
    · have HE : Hid (mPeak cs = ((peakTo cs k : Nat) : Int)) := Go.Lib.hid (by rw [HF.out, show k = cs.length by omega])
      have HB := H.below
      clear H
      go_wp2
      go_ret
      exact ⟨ret_i HE.out.symm, HB⟩
end Go.Proofs.Ytdkpfggfkhnjfaa
