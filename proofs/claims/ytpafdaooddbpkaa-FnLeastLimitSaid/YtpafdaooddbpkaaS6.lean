/- A program with a limit of cells, by the program: for every program that can be read. Printed by gens5.py. -/
import Derived.Test.YtpafdaooddbpkaaSx
import Derived.Test.YtpafdaooddbpkaaS4
namespace Go.Proofs.Ytpafdaooddbpkaa
open Go.RowKit
set_option maxHeartbeats 6400000 in
set_option maxRecDepth 20000 in
theorem implRunSweep_any (w : World) (B : Nat) (A : Option Addr) (n c : Nat) (cs : List Cmd) (hr : RdQ w B A n c cs) (LI : Int) :
    Calls Try.prog 15 #[.slice A n c, .int .i64 LI] w (MadeHBl w (mRunSwH cs LI) (mRunSwB cs LI)) := by
  have hr := hr.top
  obtain rfl := hr.len
  have hm := Nat.le_trans hr.cap hr.mx
  unfold maxLen at hm
  have H := (Owns.nil w).box [.slice none 0 0, .slice none 0 0] 32
  go_enter Try.func15, Try.ntmps15
  go_wp2_with fail
  refine (implCommandsValid_any _ _ _ _ _ cs (hr.below H.below)).mono ?_
  rintro e w1 ⟨rfl, hb⟩
  replace H := H.call hb
  clear hb
  obtain ⟨y0, y1, y2, y3⟩ := H.box2 0 rfl
  cases hc : cmdsOk cs
  · have HF1 := Go.Lib.hid (swH_no1 (L := LI) hc)
    have HF2 := Go.Lib.hid (swB_no1 (L := LI) hc)
    clear hc
    have HZ := (((H.putBox 0 rfl 0 (.slice none 0 0)).putBox 0 rfl 1 (.slice none 0 0)).noInts).noCells
    simp only [List.set_cons_zero, List.set_cons_succ] at HZ
    obtain ⟨z0, z1, -, -⟩ := HZ.box2 2 rfl
    have HS : Hid (MadeHBl w (mRunSwH cs LI) (mRunSwB cs LI) (.returned (.tuple #[.agg #[.slice none 0 0, .slice none 0 0], .bool false])) _) := Go.Lib.hid (by rw [HF1.out, HF2.out]; exact ⟨_, [], _, rfl, HZ.take 2⟩)
    clear HZ H
    go_wp2
    exact bodyPost_ret (v := .tuple #[.agg #[.slice none 0 0, .slice none 0 0], .bool false]) (by simp [results, Try.results15, go_sem, z0, z1]) rfl HS.out
  go_wp2_with fail
  refine (isLimit_any LI _).mono ?_
  rintro e w2 ⟨rfl, hw⟩
  obtain rfl := hw
  cases hl : inR LI 1 40
  · have HF1 := Go.Lib.hid (swH_no2 (cs := cs) hl)
    have HF2 := Go.Lib.hid (swB_no2 (cs := cs) hl)
    clear hc hl
    have HZ := (((H.putBox 0 rfl 0 (.slice none 0 0)).putBox 0 rfl 1 (.slice none 0 0)).noInts).noCells
    simp only [List.set_cons_zero, List.set_cons_succ] at HZ
    obtain ⟨z0, z1, -, -⟩ := HZ.box2 2 rfl
    have HS : Hid (MadeHBl w (mRunSwH cs LI) (mRunSwB cs LI) (.returned (.tuple #[.agg #[.slice none 0 0, .slice none 0 0], .bool false])) _) := Go.Lib.hid (by rw [HF1.out, HF2.out]; exact ⟨_, [], _, rfl, HZ.take 2⟩)
    clear HZ H
    go_wp2
    exact bodyPost_ret (v := .tuple #[.agg #[.slice none 0 0, .slice none 0 0], .bool false]) (by simp [results, Try.results15, go_sem, z0, z1]) rfl HS.out
  obtain ⟨q1, q2⟩ := inR_iff.1 hl
  obtain ⟨L, rfl⟩ := Int.eq_ofNat_of_zero_le (show 0 ≤ LI by omega)
  have hL1 : 1 ≤ L := by omega
  have hL2 : L ≤ 40 := by omega
  have HA := Go.Lib.hid (cmdsOk_all hc)
  obtain ⟨RR, hRR⟩ : ∃ r, r = runSw L emptyH cs := ⟨_, rfl⟩
  have HF1 : Hid (mRunSwH cs (L : Int) = RR.1) := Go.Lib.hid (by rw [swH_yes hc hL1 hL2, hRR])
  have HF2 : Hid (mRunSwB cs (L : Int) = RR.2) := Go.Lib.hid (by rw [swB_yes hc hL1 hL2, hRR])
  have HR0 : Hid (runSw L emptyH (cs.drop 0) = RR) := Go.Lib.hid (by rw [hRR, List.drop_zero])
  clear hc hl q1 q2 hRR
  go_wp2_with fail
  refine (implEmptyHeap_any _).mono ?_
  rintro e w3 ⟨cv, rvs, rv, rfl, K⟩
  replace K := H.merge K
  simp only [List.cons_append, List.nil_append] at K
  obtain ⟨C, kC, rfl, -⟩ := K.formC 0 rfl
  obtain ⟨R, kR, rfl, -⟩ := K.formI 1 rfl
  clear H y0 y1 y2 y3
  have H3 := K.box [.slice C emptyH.cells.length kC, .slice R emptyH.roots.length kR] 32
  clear K
  go_wp2_with fail
  go_loopw [24] (fun i wr => ∃ (k : Nat) (C R : Option Addr) (kC kR : Nat) (rvs : List Value) (h : Hp), i = .int .i64 k ∧ k ≤ cs.length ∧ Hid (runSw L h (cs.drop k) = RR) ∧ Hid (Good h) ∧ Owns w.heap.size w wr [.box w3.heap.size [.slice C h.cells.length kC, .slice R h.roots.length kR] 32, .cells (.slice C h.cells.length kC) rvs h.cells, .ints (.slice R h.roots.length kR) h.roots, .box w.heap.size [.slice none 0 0, .slice none 0 0] 32]) (fun i _ => cs.length - (intOf i).toNat)
  case atStart => exact ⟨0, C, R, kC, kR, rvs, emptyH, rfl, Nat.zero_le _, HR0, Go.Lib.hid emptyH_good, H3⟩
  case round =>
    clear H3 HR0
    obtain ⟨k, C, R, kC, kR, rvs, h, rfl, hk, HR, GG, H⟩ := hrel
    obtain ⟨x0, x1, x2, x3⟩ := H.box2 0 rfl
    by_cases hlt : k < cs.length
    · obtain ⟨b, o, p, rfl, hbb, hx, q1, q2, q3, q4⟩ := hr.at_ hlt
      have HP : Hid (cmdOk p = true) := Go.Lib.hid (HA.out p (List.mem_of_getElem? hx.out))
      have HGN := Go.Lib.hid (stepSw_good (L := L) GG.out HP.out hL2)
      have HST := Go.Lib.hid (fun h1 h2 => runSw_stop (p := p) hx HR.out h1 h2)
      have HGO := Go.Lib.hid (fun hn => runSw_go (p := p) hx HR.out hn)
      have HPZ := Go.Lib.hid (fun (hp : possB h p = true) hb => stepSw_new (L := L) hp hb)
      clear HR
      have g1 := H.ro q1 hbb
      have g2 := H.ro q2 hbb
      have g3 := H.ro q3 hbb
      have g4 := H.ro q4 hbb
      have H0 := H.box [.int .i64 p.op, .int .i64 p.a, .int .i64 p.b, .int .i64 p.c] 51
      clear H x0 x1 x2 x3
      obtain ⟨x0, x1, -, -⟩ := H0.box2 1 rfl
      have HV := Go.Lib.hid (mPoss_yes (good_iff.2 GG.out) HP.out)
      go_wp2_with fail
      refine (implPossible_any _ _ _ h (H0.rdH 2 3 rfl rfl) p).mono ?_
      rintro e w4 ⟨rfl, hb⟩
      rw [HV.out]
      replace H0 := H0.call hb
      clear hb x0 x1 g1 g2 g3 g4
      obtain ⟨x0, x1, -, -⟩ := H0.box2 1 rfl
      obtain ⟨b0, b1, b2, b3, -, -, -, -⟩ := box4 H0 0 rfl
      go_wp2_with fail
      refine (implStepSweep_any _ _ _ h (H0.rdH 2 3 rfl rfl) L hL1 hL2 p GG.out HP.out).mono ?_
      rintro e w5 ⟨cv, rvs', rv, rfl, K⟩
      replace K := H0.merge K
      simp only [List.cons_append, List.nil_append] at K
      obtain ⟨T, hT⟩ : ∃ T, T = (stepSw h L p).1 := ⟨_, rfl⟩
      obtain ⟨tb, htb⟩ : ∃ b, b = (stepSw h L p).2 := ⟨_, rfl⟩
      obtain ⟨pb, hpb⟩ : ∃ b, b = possB h p := ⟨_, rfl⟩
      rw [← htb, ← hpb]
      rw [← htb, ← hT] at HST
      rw [← htb, ← hT] at HGO
      rw [← hpb, ← htb] at HPZ
      rw [← hT] at K HGN
      have HNP : Hid (pb = false → ¬ p.op = 1) := Go.Lib.hid fun e h1 => by rw [hpb, poss_new h1] at e; cases e
      clear hT htb hpb H0 x0 x1 b0 b1 b2 b3 HV
      obtain ⟨C', kC', rfl, -⟩ := K.formC 0 rfl
      obtain ⟨R', kR', rfl, -⟩ := K.formI 1 rfl
      have HY := K.box [.slice C' T.cells.length kC', .slice R' T.roots.length kR'] 32
      clear K
      revert HY
      intro HY
      obtain ⟨n0, n1, -, -⟩ := HY.box2 0 rfl
      obtain ⟨x0, x1, x2, x3⟩ := HY.box2 4 rfl
      have HW := (HY.putBox 4 rfl 0 (.slice C' T.cells.length kC')).putBox 4 rfl 1 (.slice R' T.roots.length kR')
      simp only [List.set_cons_zero, List.set_cons_succ] at HW
      obtain ⟨v0, v1, -, -⟩ := HW.box2 4 rfl
      have HW7 := HW.places [4, 1, 2, 7] (by decide) (by simp)
      simp only [List.filterMap_cons, List.filterMap_nil, List.getElem?_cons_zero, List.getElem?_cons_succ] at HW7
      by_cases hstop : pb = true ∧ tb = false
      · obtain ⟨hp1, ht1⟩ := hstop
        subst hp1 ht1
        have HE := Go.Lib.hid (HST.out rfl (HPZ.out rfl rfl))
        obtain ⟨y0, y1, y2, y3⟩ := HW.box2 7 rfl
        have HZ := (HW.putBox 7 rfl 0 (.slice C' T.cells.length kC')).putBox 7 rfl 1 (.slice R' T.roots.length kR')
        simp only [List.set_cons_zero, List.set_cons_succ] at HZ
        obtain ⟨z0, z1, -, -⟩ := HZ.box2 7 rfl
        obtain ⟨z2, -, -, -⟩ := (HW.putBox 7 rfl 0 (.slice C' T.cells.length kC')).box2 7 rfl
        have HS : Hid (MadeHBl w (mRunSwH cs (L : Int)) (mRunSwB cs (L : Int)) (.returned (.tuple #[.agg #[.slice C' T.cells.length kC', .slice R' T.roots.length kR'], .bool false])) _) := Go.Lib.hid (by rw [HF1.out, HF2.out, HE.out]; exact ⟨_, rvs', _, rfl, HZ.order [1, 2] (by decide) rfl⟩)
        clear HY HW HW7 HZ q1 q2 q3 q4
        go_wp2
        exact bodyPost_ret (v := .tuple #[.agg #[.slice C' T.cells.length kC', .slice R' T.roots.length kR'], .bool false]) (by simp [results, Try.results15, go_sem, z0, z1]) rfl HS.out
      · have HE : Hid (runSw L T (List.drop (k + 1) cs) = RR) := Go.Lib.hid (HGO.out fun hk => by
          cases hpe : pb
          · exact HNP.out hpe hk.2
          · exact hstop ⟨hpe, hk.1⟩)
        clear HY HW q1 q2 q3 q4 HST HGO HPZ HNP
        cases pb <;> cases tb
        · clear hstop
          go_wp2_with fail
          go_roundw
          case rel => exact ⟨k + 1, C', R', kC', kR', rvs', T, by go_num, by omega, HE, HGN, HW7⟩
          case measure => simp [intOf]; omega
        · clear hstop
          go_wp2_with fail
          go_roundw
          case rel => exact ⟨k + 1, C', R', kC', kR', rvs', T, by go_num, by omega, HE, HGN, HW7⟩
          case measure => simp [intOf]; omega
        · exact absurd ⟨rfl, rfl⟩ hstop
        · clear hstop
          go_wp2_with fail
          go_roundw
          case rel => exact ⟨k + 1, C', R', kC', kR', rvs', T, by go_num, by omega, HE, HGN, HW7⟩
          case measure => simp [intOf]; omega
    · have HE := Go.Lib.hid (runSw_out (by omega) HR.out)
      obtain ⟨y0, y1, y2, y3⟩ := H.box2 3 rfl
      have HZ := (H.putBox 3 rfl 0 (.slice C h.cells.length kC)).putBox 3 rfl 1 (.slice R h.roots.length kR)
      simp only [List.set_cons_zero, List.set_cons_succ] at HZ
      obtain ⟨z0, z1, -, -⟩ := HZ.box2 3 rfl
      obtain ⟨z2, -, -, -⟩ := (H.putBox 3 rfl 0 (.slice C h.cells.length kC)).box2 3 rfl
      have HS : Hid (MadeHBl w (mRunSwH cs (L : Int)) (mRunSwB cs (L : Int)) (.returned (.tuple #[.agg #[.slice C h.cells.length kC, .slice R h.roots.length kR], .bool true])) _) := Go.Lib.hid (by rw [HF1.out, HF2.out, HE.out]; exact ⟨_, rvs, _, rfl, HZ.order [1, 2] (by decide) rfl⟩)
      clear H HZ
      go_wp2
      exact bodyPost_ret (v := .tuple #[.agg #[.slice C h.cells.length kC, .slice R h.roots.length kR], .bool true]) (by simp [results, Try.results15, go_sem, z0, z1]) rfl HS.out
end Go.Proofs.Ytpafdaooddbpkaa
