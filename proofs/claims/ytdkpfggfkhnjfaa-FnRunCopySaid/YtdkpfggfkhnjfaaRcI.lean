/- A program with a limit of cells that copies, by the program: for every program that can be read. Printed by genrc.py. -/
import Derived.Test.YtdkpfggfkhnjfaaRy
import Derived.Test.YtdkpfggfkhnjfaaRi
import Derived.Test.YtdkpfggfkhnjfaaVg
import Derived.Test.YtdkpfggfkhnjfaaFr
namespace Go.Proofs.Ytdkpfggfkhnjfaa
open Go.RowKit
set_option maxHeartbeats 6400000 in
set_option maxRecDepth 20000 in
theorem runMovingCopy_any (w : World) (B : Nat) (A : Option Addr) (n c : Nat) (cs : List Cmd) (hr : RdQ w B A n c cs) (LI : Int) :
    Calls Try.prog 15 #[.slice A n c, .int .i64 LI, .func (.func 16) #[] #[]] w (MadeHBl w (mRunCpH mCopy cs LI) (mRunCpB mCopy cs LI)) := by
  have hr := hr.top
  obtain rfl := hr.len
  have hm := Nat.le_trans hr.cap hr.mx
  unfold maxLen at hm
  have H := (Owns.nil w).box [.slice none 0 0, .slice none 0 0] 29
  go_enter Try.func15, Try.ntmps15
  go_wp2_with fail
  refine (implCommandsValid_any _ _ _ _ _ cs (hr.below H.below)).mono ?_
  rintro e w1 ⟨rfl, hb⟩
  replace H := H.call hb
  clear hb
  obtain ⟨y0, y1, y2, y3⟩ := H.box2 0 rfl
  cases hc : cmdsOk cs
  · have HF1 := Go.Lib.hid (cpH_no1 (mv := mCopy) (LI := LI) hc)
    have HF2 := Go.Lib.hid (cpB_no1 (mv := mCopy) (LI := LI) hc)
    clear hc
    have HZ := (((H.putBox 0 rfl 0 (.slice none 0 0)).putBox 0 rfl 1 (.slice none 0 0)).noInts).noCells
    simp only [List.set_cons_zero, List.set_cons_succ, List.eraseIdx_cons_zero, List.eraseIdx_cons_succ, List.drop_succ_cons, List.drop_zero, List.take_succ_cons, List.take_zero, List.length_append, List.length_cons, List.length_nil, List.nil_append, Nat.zero_add, World.size_alloc] at HZ
    obtain ⟨z0, z1, -, -⟩ := HZ.box2 2 rfl
    have HS : Hid (MadeHBl w (mRunCpH mCopy cs LI) (mRunCpB mCopy cs LI) (.returned (.tuple #[.agg #[.slice none 0 0, .slice none 0 0], .bool false])) _) := Go.Lib.hid (by rw [HF1.out, HF2.out]; exact ⟨_, [], _, rfl, HZ.take 2⟩)
    clear HZ H
    go_wp2
    exact bodyPost_ret (v := .tuple #[.agg #[.slice none 0 0, .slice none 0 0], .bool false]) (by simp [results, Try.results15, go_sem, z0, z1]) rfl HS.out
  go_wp2_with fail
  refine (isLimit_any LI _).mono ?_
  rintro e w2 ⟨rfl, hw⟩
  obtain rfl := hw
  cases hl : inR LI 1 40
  · have HF1 := Go.Lib.hid (cpH_no2 (mv := mCopy) (cs := cs) hl)
    have HF2 := Go.Lib.hid (cpB_no2 (mv := mCopy) (cs := cs) hl)
    clear hc hl
    have HZ := (((H.putBox 0 rfl 0 (.slice none 0 0)).putBox 0 rfl 1 (.slice none 0 0)).noInts).noCells
    simp only [List.set_cons_zero, List.set_cons_succ, List.eraseIdx_cons_zero, List.eraseIdx_cons_succ, List.drop_succ_cons, List.drop_zero, List.take_succ_cons, List.take_zero, List.length_append, List.length_cons, List.length_nil, List.nil_append, Nat.zero_add, World.size_alloc] at HZ
    obtain ⟨z0, z1, -, -⟩ := HZ.box2 2 rfl
    have HS : Hid (MadeHBl w (mRunCpH mCopy cs LI) (mRunCpB mCopy cs LI) (.returned (.tuple #[.agg #[.slice none 0 0, .slice none 0 0], .bool false])) _) := Go.Lib.hid (by rw [HF1.out, HF2.out]; exact ⟨_, [], _, rfl, HZ.take 2⟩)
    clear HZ H
    go_wp2
    exact bodyPost_ret (v := .tuple #[.agg #[.slice none 0 0, .slice none 0 0], .bool false]) (by simp [results, Try.results15, go_sem, z0, z1]) rfl HS.out
  obtain ⟨q1, q2⟩ := inR_iff.1 hl
  obtain ⟨L, rfl⟩ := Int.eq_ofNat_of_zero_le (show 0 ≤ LI by omega)
  have hL1 : 1 ≤ L := by omega
  have hL2 : L ≤ 40 := by omega
  have HA := Go.Lib.hid (cmdsOk_all hc)
  obtain ⟨RR, hRR⟩ : ∃ r, r = runCp mCopy L emptyH cs := ⟨_, rfl⟩
  have HF1 : Hid (mRunCpH mCopy cs (L : Int) = RR.1) := Go.Lib.hid (by rw [cpH_yes hc hL1 hL2, hRR])
  have HF2 : Hid (mRunCpB mCopy cs (L : Int) = RR.2) := Go.Lib.hid (by rw [cpB_yes hc hL1 hL2, hRR])
  have HR0 : Hid (runCp mCopy L emptyH (cs.drop 0) = RR) := Go.Lib.hid (by rw [hRR, List.drop_zero])
  clear hc hl q1 q2 hRR
  go_wp2_with fail
  refine (implEmptyHeap_any _).mono ?_
  rintro e w3 ⟨cv, rvs, rv, rfl, K⟩
  replace K := H.merge K
  simp only [List.cons_append, List.nil_append] at K
  obtain ⟨C, kC, rfl, -⟩ := K.formC 0 rfl
  obtain ⟨R, kR, rfl, -⟩ := K.formI 1 rfl
  clear H y0 y1 y2 y3
  have H3 := K.box [.slice C emptyH.cells.length kC, .slice R emptyH.roots.length kR] 29
  clear K
  go_wp2_with fail
  go_loopw [23] (fun i wr => ∃ (k : Nat) (C R : Option Addr) (kC kR : Nat) (rvs : List Value) (h : Hp), i = .int .i64 k ∧ k ≤ cs.length ∧ Hid (runCp mCopy L h (cs.drop k) = RR) ∧ Hid (Good h) ∧ Owns w.heap.size w wr [.box w3.heap.size [.slice C h.cells.length kC, .slice R h.roots.length kR] 29, .cells (.slice C h.cells.length kC) rvs h.cells, .ints (.slice R h.roots.length kR) h.roots, .box w.heap.size [.slice none 0 0, .slice none 0 0] 29]) (fun i _ => cs.length - (intOf i).toNat)
  case atStart => exact ⟨0, C, R, kC, kR, rvs, emptyH, rfl, Nat.zero_le _, HR0, Go.Lib.hid emptyH_good, H3⟩
  case round =>
    clear H3 HR0
    obtain ⟨k, C, R, kC, kR, rvs, h, rfl, hk, HR, GG, H⟩ := hrel
    obtain ⟨x0, x1, x2, x3⟩ := H.box2 0 rfl
    by_cases hlt : k < cs.length
    · obtain ⟨b, o, p, rfl, hbb, hx, q1, q2, q3, q4⟩ := hr.at_ hlt
      have HP : Hid (cmdOk p = true) := Go.Lib.hid (HA.out p (List.mem_of_getElem? hx.out))
      have g1 := H.ro q1 hbb
      have g2 := H.ro q2 hbb
      have g3 := H.ro q3 hbb
      have g4 := H.ro q4 hbb
      have H0 := H.box [.int .i64 p.op, .int .i64 p.a, .int .i64 p.b, .int .i64 p.c] 46
      clear H x0 x1 x2 x3
      obtain ⟨x0, x1, x2, x3⟩ := H0.box2 1 rfl
      obtain ⟨b0, b1, b2, b3, -, -, -, -⟩ := box4 H0 0 rfl
      by_cases hm : p.op = 1 ∧ L ≤ h.cells.length
      rotate_left
      · have HE : Hid (runCp mCopy L (mStep h p) (cs.drop (k + 1)) = RR) := Go.Lib.hid (runCp_go hx HR.out hm)
        have HTG : Hid (Good (mStep h p)) := Go.Lib.hid (mStep_good GG.out HP.out)
        clear HR
        by_cases h1 : p.op = 1
        · have k3 : (p.op == 1) = true := by simp [h1]
          have k4 : ¬ (L : Int) ≤ (h.cells.length : Int) := by omega
          clear h1 hm
          go_wp2_with fail
          refine (implStepHeap_any _ _ _ h (H0.rdH 2 3 rfl rfl) p GG.out HP.out).mono ?_
          rintro e w5 ⟨cv, rvs', rv, rfl, K⟩
          replace K := H0.merge K
          simp only [List.cons_append, List.nil_append] at K
          obtain ⟨T, hT⟩ : ∃ T, T = mStep h p := ⟨_, rfl⟩
          generalize stepOk h p = tb at *
          rw [← hT] at K HE HTG
          clear hT H0 x0 x1 x2 x3 b0 b1 b2 b3
          obtain ⟨C', kC', rfl, -⟩ := K.formC 0 rfl
          obtain ⟨R', kR', rfl, -⟩ := K.formI 1 rfl
          obtain ⟨x0, x1, x2, x3⟩ := K.box2 3 rfl
          have H7 := ((K.putBox 3 rfl 0 (.slice C' T.cells.length kC')).putBox 3 rfl 1 (.slice R' T.roots.length kR')).places [3, 0, 1, 6] (by decide) (by simp)
          simp only [List.filterMap_cons, List.filterMap_nil, List.getElem?_cons_zero, List.getElem?_cons_succ, List.set_cons_zero, List.set_cons_succ] at H7
          clear K
          go_wp2_with fail
          go_roundw
          case rel => exact ⟨k + 1, C', R', kC', kR', rvs', T, by go_num, by omega, HE, HTG, H7⟩
          case measure => simp [intOf]; omega
        · have k3 : (p.op == 1) = false := by simp [h1]
          clear h1 hm
          go_wp2_with fail
          refine (implStepHeap_any _ _ _ h (H0.rdH 2 3 rfl rfl) p GG.out HP.out).mono ?_
          rintro e w5 ⟨cv, rvs', rv, rfl, K⟩
          replace K := H0.merge K
          simp only [List.cons_append, List.nil_append] at K
          obtain ⟨T, hT⟩ : ∃ T, T = mStep h p := ⟨_, rfl⟩
          generalize stepOk h p = tb at *
          rw [← hT] at K HE HTG
          clear hT H0 x0 x1 x2 x3 b0 b1 b2 b3
          obtain ⟨C', kC', rfl, -⟩ := K.formC 0 rfl
          obtain ⟨R', kR', rfl, -⟩ := K.formI 1 rfl
          obtain ⟨x0, x1, x2, x3⟩ := K.box2 3 rfl
          have H7 := ((K.putBox 3 rfl 0 (.slice C' T.cells.length kC')).putBox 3 rfl 1 (.slice R' T.roots.length kR')).places [3, 0, 1, 6] (by decide) (by simp)
          simp only [List.filterMap_cons, List.filterMap_nil, List.getElem?_cons_zero, List.getElem?_cons_succ, List.set_cons_zero, List.set_cons_succ] at H7
          clear K
          go_wp2_with fail
          go_roundw
          case rel => exact ⟨k + 1, C', R', kC', kR', rvs', T, by go_num, by omega, HE, HTG, H7⟩
          case measure => simp [intOf]; omega
      obtain ⟨h1, hlen⟩ := hm
      have k3 : (p.op == 1) = true := by simp [h1]
      have k4 : (L : Int) ≤ (h.cells.length : Int) := by omega
      have HST := Go.Lib.hid (fun h3 => runCp_stop hx HR.out h1 hlen h3)
      have HMV := Go.Lib.hid (fun h3 => runCp_moved hx HR.out h1 hlen h3)
      have GX := Go.Lib.hid (good_iff.1 (copy_mover.ok _ (good_iff.2 GG.out)))
      clear HR h1 hlen
      go_wp2_with fail
      refine (implCopyHeap_any _ _ _ h (H0.rdH 2 3 rfl rfl) (good_iff.2 GG.out)).mono ?_
      rintro e w4 ⟨v1, rfl, ho, hb⟩
      obtain ⟨cv, rvs', rv, rfl, K⟩ := H0.madeH ho hb
      obtain ⟨X, hX⟩ : ∃ X, X = mCopy h := ⟨_, rfl⟩
      rw [← hX] at K HST HMV GX
      clear ho hb hX H0 x0 x1 x2 x3 g1 g2 g3 g4 b0 b1 b2 b3
      obtain ⟨C, kC, rfl, -⟩ := K.formC 0 rfl
      obtain ⟨R, kR, rfl, -⟩ := K.formI 1 rfl
      obtain ⟨x0, x1, x2, x3⟩ := K.box2 3 rfl
      have H0 := ((K.putBox 3 rfl 0 (.slice C X.cells.length kC)).putBox 3 rfl 1 (.slice R X.roots.length kR)).places [2, 3, 0, 1, 6] (by decide) (by simp)
      simp only [List.filterMap_cons, List.filterMap_nil, List.getElem?_cons_zero, List.getElem?_cons_succ, List.set_cons_zero, List.set_cons_succ] at H0
      clear K
      by_cases hs : L ≤ X.cells.length
      · have HE := Go.Lib.hid (HST.out hs)
        have k5 : (L : Int) ≤ (X.cells.length : Int) := by omega
        obtain ⟨v0, v1, -, -⟩ := H0.box2 1 rfl
        obtain ⟨y0, y1, y2, y3⟩ := H0.box2 4 rfl
        have HZ := (H0.putBox 4 rfl 0 (.slice C X.cells.length kC)).putBox 4 rfl 1 (.slice R X.roots.length kR)
        simp only [List.set_cons_zero, List.set_cons_succ, List.eraseIdx_cons_zero, List.eraseIdx_cons_succ, List.drop_succ_cons, List.drop_zero, List.take_succ_cons, List.take_zero, List.length_append, List.length_cons, List.length_nil, List.nil_append, Nat.zero_add, World.size_alloc] at HZ
        obtain ⟨z0, z1, -, -⟩ := HZ.box2 4 rfl
        obtain ⟨z2, -, -, -⟩ := (H0.putBox 4 rfl 0 (.slice C X.cells.length kC)).box2 4 rfl
        have HS : Hid (MadeHBl w (mRunCpH mCopy cs (L : Int)) (mRunCpB mCopy cs (L : Int)) (.returned (.tuple #[.agg #[.slice C X.cells.length kC, .slice R X.roots.length kR], .bool false])) _) := Go.Lib.hid (by rw [HF1.out, HF2.out, HE.out]; exact ⟨_, rvs', _, rfl, HZ.order [2, 3] (by decide) rfl⟩)
        clear H0 HZ
        go_wp2
        exact bodyPost_ret (v := .tuple #[.agg #[.slice C X.cells.length kC, .slice R X.roots.length kR], .bool false]) (by simp [results, Try.results15, go_sem, z0, z1, z2]) rfl HS.out
      · have HE : Hid (runCp mCopy L (mStep X p) (cs.drop (k + 1)) = RR) := Go.Lib.hid (HMV.out hs)
        have HTG : Hid (Good (mStep X p)) := Go.Lib.hid (mStep_good GX.out HP.out)
        have k5 : ¬ (L : Int) ≤ (X.cells.length : Int) := by omega
        clear HST HMV hs
        obtain ⟨v0, v1, -, -⟩ := H0.box2 1 rfl
        obtain ⟨b0, b1, b2, b3, -, -, -, -⟩ := box4 H0 0 rfl
        go_wp2_with fail
        refine (implStepHeap_any _ _ _ X (H0.rdH 2 3 rfl rfl) p GX.out HP.out).mono ?_
        rintro e w5 ⟨cv, rvs', rv, rfl, K⟩
        replace K := H0.merge K
        simp only [List.cons_append, List.nil_append] at K
        obtain ⟨T, hT⟩ : ∃ T, T = mStep X p := ⟨_, rfl⟩
        generalize stepOk X p = tb at *
        rw [← hT] at K HE HTG
        clear hT H0 v0 v1 x0 x1 x2 x3 b0 b1 b2 b3
        obtain ⟨C', kC', rfl, -⟩ := K.formC 0 rfl
        obtain ⟨R', kR', rfl, -⟩ := K.formI 1 rfl
        obtain ⟨x0, x1, x2, x3⟩ := K.box2 3 rfl
        have H7 := ((K.putBox 3 rfl 0 (.slice C' T.cells.length kC')).putBox 3 rfl 1 (.slice R' T.roots.length kR')).places [3, 0, 1, 6] (by decide) (by simp)
        simp only [List.filterMap_cons, List.filterMap_nil, List.getElem?_cons_zero, List.getElem?_cons_succ, List.set_cons_zero, List.set_cons_succ] at H7
        clear K
        go_wp2_with fail
        go_roundw
        case rel => exact ⟨k + 1, C', R', kC', kR', rvs', T, by go_num, by omega, HE, HTG, H7⟩
        case measure => simp [intOf]; omega
    · have HE := Go.Lib.hid (runCp_out (by omega) HR.out)
      obtain ⟨y0, y1, y2, y3⟩ := H.box2 3 rfl
      have HZ := (H.putBox 3 rfl 0 (.slice C h.cells.length kC)).putBox 3 rfl 1 (.slice R h.roots.length kR)
      simp only [List.set_cons_zero, List.set_cons_succ, List.eraseIdx_cons_zero, List.eraseIdx_cons_succ, List.drop_succ_cons, List.drop_zero, List.take_succ_cons, List.take_zero, List.length_append, List.length_cons, List.length_nil, List.nil_append, Nat.zero_add, World.size_alloc] at HZ
      obtain ⟨z0, z1, -, -⟩ := HZ.box2 3 rfl
      obtain ⟨z2, -, -, -⟩ := (H.putBox 3 rfl 0 (.slice C h.cells.length kC)).box2 3 rfl
      have HS : Hid (MadeHBl w (mRunCpH mCopy cs (L : Int)) (mRunCpB mCopy cs (L : Int)) (.returned (.tuple #[.agg #[.slice C h.cells.length kC, .slice R h.roots.length kR], .bool true])) _) := Go.Lib.hid (by rw [HF1.out, HF2.out, HE.out]; exact ⟨_, rvs, _, rfl, HZ.order [1, 2] (by decide) rfl⟩)
      clear H HZ
      go_wp2
      exact bodyPost_ret (v := .tuple #[.agg #[.slice C h.cells.length kC, .slice R h.roots.length kR], .bool true]) (by simp [results, Try.results15, go_sem, z0, z1, z2]) rfl HS.out
set_option maxHeartbeats 1600000 in
theorem implRunCopy_any (w : World) (B : Nat) (A : Option Addr) (n c : Nat) (cs : List Cmd) (hr : RdQ w B A n c cs) (LI : Int) :
    Calls Try.prog 5 #[.slice A n c, .int .i64 LI] w (MadeHBl w (mRunCpH mCopy cs LI) (mRunCpB mCopy cs LI)) := by
  have hr := hr.top
  have H := (Owns.nil w).box [.slice none 0 0, .slice none 0 0] 29
  go_enter Try.func5, Try.ntmps5
  go_wp2_with fail
  refine (runMovingCopy_any _ _ _ _ _ cs (hr.below H.below) LI).mono ?_
  rintro e w1 ⟨cv, rvs, rv, rfl, K⟩
  replace K := H.merge K
  simp only [List.cons_append, List.nil_append] at K
  obtain ⟨X, hX⟩ : ∃ X, X = mRunCpH mCopy cs LI := ⟨_, rfl⟩
  obtain ⟨tb, htb⟩ : ∃ b, b = mRunCpB mCopy cs LI := ⟨_, rfl⟩
  rw [← hX] at K
  rw [← htb]
  have HX := Go.Lib.hid hX
  have HT := Go.Lib.hid htb
  clear hX htb H
  obtain ⟨C, kC, rfl, -⟩ := K.formC 0 rfl
  obtain ⟨R, kR, rfl, -⟩ := K.formI 1 rfl
  obtain ⟨y0, y1, y2, y3⟩ := K.box2 2 rfl
  have HZ := (K.putBox 2 rfl 0 (.slice C X.cells.length kC)).putBox 2 rfl 1 (.slice R X.roots.length kR)
  simp only [List.set_cons_zero, List.set_cons_succ, List.eraseIdx_cons_zero, List.eraseIdx_cons_succ, List.drop_succ_cons, List.drop_zero, List.take_succ_cons, List.take_zero, List.length_append, List.length_cons, List.length_nil, List.nil_append, Nat.zero_add, World.size_alloc] at HZ
  obtain ⟨z0, z1, -, -⟩ := HZ.box2 2 rfl
  obtain ⟨z2, -, -, -⟩ := (K.putBox 2 rfl 0 (.slice C X.cells.length kC)).box2 2 rfl
  have HS : Hid (MadeHBl w (mRunCpH mCopy cs LI) (mRunCpB mCopy cs LI) (.returned (.tuple #[.agg #[.slice C X.cells.length kC, .slice R X.roots.length kR], .bool tb])) _) := Go.Lib.hid (by rw [← HX.out, ← HT.out]; exact ⟨_, rvs, _, rfl, HZ.take 2⟩)
  clear K HZ
  go_wp2
  exact bodyPost_ret (v := .tuple #[.agg #[.slice C X.cells.length kC, .slice R X.roots.length kR], .bool tb]) (by simp [results, Try.results5, go_sem, z0, z1, z2]) rfl HS.out
end Go.Proofs.Ytdkpfggfkhnjfaa
