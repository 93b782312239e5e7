/- A step of a program, and a whole program, by the program itself: for valid heaps and instructions. -/
import Derived.Test.YtdkpfggfkhnjfaaEx
import Derived.Test.YtdkpfggfkhnjfaaPz
import Derived.Test.YtdkpfggfkhnjfaaCs
import Derived.Test.YtdkpfggfkhnjfaaRn
namespace Go.Proofs.Ytdkpfggfkhnjfaa
open Go.RowKit
set_option maxHeartbeats 3200000 in
set_option maxRecDepth 20000 in
theorem implStepHeap_any (w : World) (B : Nat) (v : Value) (h : Hp) (hh : RdH w B v h) (o : Cmd) (g : Good h) (hc : cmdOk o = true) :
    Calls Try.prog 29 #[v, cmdV o] w (MadeHBl w (mStep h o) (stepOk h o)) := by
  have hh' := hh.top
  obtain ⟨D, m, d, D', m', d', rfl, hC, hR⟩ := hh.top
  obtain rfl := hC.len
  have hl40 := g.len
  have hr4 : h.roots.length ≤ 4 := by have := g.roots; omega
  obtain ⟨op, a, b, c⟩ := o
  have H := (((Owns.nil w).box [.slice D h.cells.length d, .slice D' m' d'] 29).box [.int .i64 op, .int .i64 a, .int .i64 b, .int .i64 c] 46).box [.slice none 0 0, .slice none 0 0] 29
  simp only [World.size_alloc] at H
  have HY := Go.Lib.hid (good_iff.2 g)
  have HC := Go.Lib.hid hc
  have GG := Go.Lib.hid g
  clear hc g
  obtain ⟨a0, a1, -, -⟩ := H.box2 2 rfl
  obtain ⟨b0, b1, b2, b3, -, -, -, -⟩ := box4 H 1 rfl
  go_enter Try.func29, Try.ntmps29
  go_wp2_with fail
  refine (heapValid_any _ _ _ h (hh'.below H.below)).mono ?_
  rintro e w1 ⟨rfl, hb⟩
  rw [HY.out]
  replace H := H.call hb
  clear hb a0 a1 b0 b1 b2 b3
  obtain ⟨a0, a1, -, -⟩ := H.box2 2 rfl
  obtain ⟨b0, b1, b2, b3, -, -, -, -⟩ := box4 H 1 rfl
  go_wp2_with fail
  refine (implCommandValid_any ⟨op, a, b, c⟩ _).mono ?_
  rintro e w2 ⟨rfl, hb⟩
  rw [HC.out]
  replace H := H.call hb
  clear hb a0 a1 b0 b1 b2 b3
  obtain ⟨a0, a1, -, -⟩ := H.box2 2 rfl
  obtain ⟨b0, b1, b2, b3, -, -, -, -⟩ := box4 H 1 rfl
  go_wp2_with fail
  refine (implPossible_any _ _ _ h (hh'.below H.below) ⟨op, a, b, c⟩).mono ?_
  rintro e w3 ⟨rfl, hb⟩
  rw [mPoss_yes HY.out HC.out]
  replace H := H.call hb
  clear hb a0 a1 b0 b1 b2 b3
  obtain ⟨a0, a1, -, -⟩ := H.box2 2 rfl
  obtain ⟨b0, b1, b2, b3, -, -, -, -⟩ := box4 H 1 rfl
  obtain ⟨y0, y1, y2, y3⟩ := H.box2 0 rfl
  have HN3 := Go.Lib.hid (good_small GG.out)
  cases hp : possB h ⟨op, a, b, c⟩
  · have hs : stepOk h ⟨op, a, b, c⟩ = false := by simp [stepOk, hp]
    have HF1 := Go.Lib.hid hs
    have HF2 := Go.Lib.hid (mStep_no GG.out HC.out hs)
    clear hs hp
    go_wp2_with fail
    refine (copyHeap_any _ _ _ h (hh'.below H.below) (by omega) (by omega) HN3.out).mono ?_
    rintro e w4 ⟨v1, rfl, ho, hb⟩
    obtain ⟨cv, rvs, rv, rfl, K⟩ := H.madeH ho hb
    clear ho hb
    obtain ⟨C, kC, rfl, -⟩ := K.formC 0 rfl
    obtain ⟨R, kR, rfl, -⟩ := K.formI 1 rfl
    clear H a0 a1 b0 b1 b2 b3 y0 y1 y2 y3
    obtain ⟨y0, y1, y2, y3⟩ := K.box2 2 rfl
    have HZ := (K.putBox 2 rfl 0 (.slice C h.cells.length kC)).putBox 2 rfl 1 (.slice R h.roots.length kR)
    simp only [List.set_cons_zero, List.set_cons_succ] at HZ
    obtain ⟨z0, z1, -, -⟩ := HZ.box2 2 rfl
    obtain ⟨z2, -, -, -⟩ := (K.putBox 2 rfl 0 (.slice C h.cells.length kC)).box2 2 rfl
    have HS : Hid (MadeHBl w (mStep h ⟨op, a, b, c⟩) (stepOk h ⟨op, a, b, c⟩) (.returned (.tuple #[.agg #[.slice C h.cells.length kC, .slice R h.roots.length kR], .bool false])) _) := Go.Lib.hid (by rw [HF1.out, HF2.out]; exact ⟨_, rvs, _, rfl, HZ.take 2⟩)
    clear K HZ
    go_wp2
    exact bodyPost_ret (v := .tuple #[.agg #[.slice C h.cells.length kC, .slice R h.roots.length kR], .bool false]) (by simp [results, Try.results29, go_sem, z0, z1]) rfl HS.out
  have HP := Go.Lib.hid hp
  by_cases h1 : op = 1
  · by_cases hl : h.cells.length = 40
    · have hs : stepOk h ⟨op, a, b, c⟩ = false := by simp [stepOk, h1, hl]
      have HF1 := Go.Lib.hid hs
      have HF2 := Go.Lib.hid (mStep_no GG.out HC.out hs)
      have k1 : ((h.cells.length : Int) == 40) = true := by simp; omega
      have k3 : (op == 1) = true := by simp [h1]
      clear hs hp hl h1
      go_wp2_with fail
      refine (copyHeap_any _ _ _ h (hh'.below H.below) (by omega) (by omega) HN3.out).mono ?_
      rintro e w4 ⟨v1, rfl, ho, hb⟩
      obtain ⟨cv, rvs, rv, rfl, K⟩ := H.madeH ho hb
      clear ho hb
      obtain ⟨C, kC, rfl, -⟩ := K.formC 0 rfl
      obtain ⟨R, kR, rfl, -⟩ := K.formI 1 rfl
      clear H a0 a1 b0 b1 b2 b3 y0 y1 y2 y3
      obtain ⟨y0, y1, y2, y3⟩ := K.box2 2 rfl
      have HZ := (K.putBox 2 rfl 0 (.slice C h.cells.length kC)).putBox 2 rfl 1 (.slice R h.roots.length kR)
      simp only [List.set_cons_zero, List.set_cons_succ] at HZ
      obtain ⟨z0, z1, -, -⟩ := HZ.box2 2 rfl
      obtain ⟨z2, -, -, -⟩ := (K.putBox 2 rfl 0 (.slice C h.cells.length kC)).box2 2 rfl
      have HS : Hid (MadeHBl w (mStep h ⟨op, a, b, c⟩) (stepOk h ⟨op, a, b, c⟩) (.returned (.tuple #[.agg #[.slice C h.cells.length kC, .slice R h.roots.length kR], .bool false])) _) := Go.Lib.hid (by rw [HF1.out, HF2.out]; exact ⟨_, rvs, _, rfl, HZ.take 2⟩)
      clear K HZ
      go_wp2
      exact bodyPost_ret (v := .tuple #[.agg #[.slice C h.cells.length kC, .slice R h.roots.length kR], .bool false]) (by simp [results, Try.results29, go_sem, z0, z1]) rfl HS.out
    · have hs : stepOk h ⟨op, a, b, c⟩ = true := by unfold stepOk; rw [hp]; simp [hl]
      have HF1 := Go.Lib.hid hs
      have HF2 := Go.Lib.hid (mStep_yes GG.out HC.out hs)
      have k1 : ((h.cells.length : Int) == 40) = false := by simp; omega
      have k3 : (op == 1) = true := by simp [h1]
      clear hs hp hl h1
      go_wp2_with fail
      refine (execute_any _ _ _ h (hh'.below H.below) ⟨op, a, b, c⟩ GG.out HC.out HP.out h.cells.length (Nat.le_refl _)).mono ?_
      rintro e w4 ⟨cv, rvs, rv, rfl, K⟩
      replace K := H.merge K
      simp only [List.cons_append, List.nil_append] at K
      obtain ⟨T, hT⟩ : ∃ T, T = mDo h ⟨op, a, b, c⟩ h.cells.length := ⟨_, rfl⟩
      rw [← hT] at K HF2
      clear hT
      obtain ⟨C, kC, rfl, -⟩ := K.formC 0 rfl
      obtain ⟨R, kR, rfl, -⟩ := K.formI 1 rfl
      clear H a0 a1 b0 b1 b2 b3 y0 y1 y2 y3
      obtain ⟨y0, y1, y2, y3⟩ := K.box2 2 rfl
      have HZ := (K.putBox 2 rfl 0 (.slice C T.cells.length kC)).putBox 2 rfl 1 (.slice R T.roots.length kR)
      simp only [List.set_cons_zero, List.set_cons_succ] at HZ
      obtain ⟨z0, z1, -, -⟩ := HZ.box2 2 rfl
      obtain ⟨z2, -, -, -⟩ := (K.putBox 2 rfl 0 (.slice C T.cells.length kC)).box2 2 rfl
      have HS : Hid (MadeHBl w (mStep h ⟨op, a, b, c⟩) (stepOk h ⟨op, a, b, c⟩) (.returned (.tuple #[.agg #[.slice C T.cells.length kC, .slice R T.roots.length kR], .bool true])) _) := Go.Lib.hid (by rw [HF1.out, HF2.out]; exact ⟨_, rvs, _, rfl, HZ.take 2⟩)
      clear K HZ
      go_wp2
      exact bodyPost_ret (v := .tuple #[.agg #[.slice C T.cells.length kC, .slice R T.roots.length kR], .bool true]) (by simp [results, Try.results29, go_sem, z0, z1]) rfl HS.out
  · have hs : stepOk h ⟨op, a, b, c⟩ = true := by unfold stepOk; rw [hp]; simp [h1]
    have HF1 := Go.Lib.hid hs
    have HF2 := Go.Lib.hid (mStep_yes GG.out HC.out hs)
    have k3 : (op == 1) = false := by simp [h1]
    clear hs hp
    go_wp2_with fail
    refine (execute_any _ _ _ h (hh'.below H.below) ⟨op, a, b, c⟩ GG.out HC.out HP.out h.cells.length (Nat.le_refl _)).mono ?_
    rintro e w4 ⟨cv, rvs, rv, rfl, K⟩
    replace K := H.merge K
    simp only [List.cons_append, List.nil_append] at K
    obtain ⟨T, hT⟩ : ∃ T, T = mDo h ⟨op, a, b, c⟩ h.cells.length := ⟨_, rfl⟩
    rw [← hT] at K HF2
    clear hT
    obtain ⟨C, kC, rfl, -⟩ := K.formC 0 rfl
    obtain ⟨R, kR, rfl, -⟩ := K.formI 1 rfl
    clear H a0 a1 b0 b1 b2 b3 y0 y1 y2 y3
    obtain ⟨y0, y1, y2, y3⟩ := K.box2 2 rfl
    have HZ := (K.putBox 2 rfl 0 (.slice C T.cells.length kC)).putBox 2 rfl 1 (.slice R T.roots.length kR)
    simp only [List.set_cons_zero, List.set_cons_succ] at HZ
    obtain ⟨z0, z1, -, -⟩ := HZ.box2 2 rfl
    obtain ⟨z2, -, -, -⟩ := (K.putBox 2 rfl 0 (.slice C T.cells.length kC)).box2 2 rfl
    have HS : Hid (MadeHBl w (mStep h ⟨op, a, b, c⟩) (stepOk h ⟨op, a, b, c⟩) (.returned (.tuple #[.agg #[.slice C T.cells.length kC, .slice R T.roots.length kR], .bool true])) _) := Go.Lib.hid (by rw [HF1.out, HF2.out]; exact ⟨_, rvs, _, rfl, HZ.take 2⟩)
    clear K HZ
    go_wp2
    exact bodyPost_ret (v := .tuple #[.agg #[.slice C T.cells.length kC, .slice R T.roots.length kR], .bool true]) (by simp [results, Try.results29, go_sem, z0, z1]) rfl HS.out
set_option maxHeartbeats 3200000 in
set_option maxRecDepth 20000 in
theorem implRunHeap_any (w : World) (B : Nat) (A : Option Addr) (n c : Nat) (cs : List Cmd) (hr : RdQ w B A n c cs) :
    Calls Try.prog 11 #[.slice A n c] w (MadeHp w (mRun cs)) := by
  have hr := hr.top
  obtain rfl := hr.len
  have hm := Nat.le_trans hr.cap hr.mx
  unfold maxLen at hm
  have H := (Owns.nil w).box [.slice none 0 0, .slice none 0 0] 29
  go_enter Try.func11, Try.ntmps11
  go_wp2_with fail
  refine (implCommandsValid_any _ _ _ _ _ cs (hr.below H.below)).mono ?_
  rintro e w1 ⟨rfl, hb⟩
  replace H := H.call hb
  clear hb
  obtain ⟨y0, y1, y2, y3⟩ := H.box2 0 rfl
  cases hc : cmdsOk cs
  · have HF := Go.Lib.hid (mRun_no hc)
    clear hc
    have HZ := (((H.putBox 0 rfl 0 (.slice none 0 0)).putBox 0 rfl 1 (.slice none 0 0)).noInts).noCells
    simp only [List.set_cons_zero, List.set_cons_succ] at HZ
    obtain ⟨z0, z1, -, -⟩ := HZ.box2 2 rfl
    have HS : Hid (MadeHp w (mRun cs) (.returned (.agg #[.slice none 0 0, .slice none 0 0])) _) := Go.Lib.hid (by rw [HF.out]; exact ⟨_, [], _, rfl, HZ.take 2⟩)
    clear HZ H
    go_wp2
    exact bodyPost_ret (v := .agg #[.slice none 0 0, .slice none 0 0]) (by simp [results, Try.results11, go_sem, z0, z1]) rfl HS.out
  have HF := Go.Lib.hid (mRun_yes hc)
  have HA := Go.Lib.hid (cmdsOk_all hc)
  clear hc
  go_wp2_with fail
  refine (implEmptyHeap_any _).mono ?_
  rintro e w2 ⟨cv, rvs, rv, rfl, K⟩
  replace K := H.merge K
  simp only [List.cons_append, List.nil_append] at K
  obtain ⟨C, kC, rfl, -⟩ := K.formC 0 rfl
  obtain ⟨R, kR, rfl, -⟩ := K.formI 1 rfl
  clear H y0 y1 y2 y3
  have H2 := K.box [.slice C emptyH.cells.length kC, .slice R emptyH.roots.length kR] 29
  clear K
  have H3 : Owns w.heap.size w _ [.box w2.heap.size [.slice C (runTo (cs.take 0)).cells.length kC, .slice R (runTo (cs.take 0)).roots.length kR] 29, .cells (.slice C (runTo (cs.take 0)).cells.length kC) rvs (runTo (cs.take 0)).cells, .ints (.slice R (runTo (cs.take 0)).roots.length kR) (runTo (cs.take 0)).roots, .box w.heap.size [.slice none 0 0, .slice none 0 0] 29] := H2
  clear H2
  go_wp2_with fail
  go_loopw [13] (fun i wr => ∃ (k : Nat) (C R : Option Addr) (kC kR : Nat) (rvs : List Value) (h : Hp), i = .int .i64 k ∧ k ≤ cs.length ∧ h = runTo (cs.take k) ∧ Owns w.heap.size w wr [.box w2.heap.size [.slice C h.cells.length kC, .slice R h.roots.length kR] 29, .cells (.slice C h.cells.length kC) rvs h.cells, .ints (.slice R h.roots.length kR) h.roots, .box w.heap.size [.slice none 0 0, .slice none 0 0] 29]) (fun i _ => cs.length - (intOf i).toNat)
  case atStart => exact ⟨0, C, R, kC, kR, rvs, _, rfl, Nat.zero_le _, rfl, H3⟩
  case round =>
    clear H3
    obtain ⟨k, C, R, kC, kR, rvs, h, rfl, hk, hh, H⟩ := hrel
    by_cases hlt : k < cs.length
    · obtain ⟨b, o, p, rfl, hbb, hx, q1, q2, q3, q4⟩ := hr.at_ hlt
      have hp : cmdOk p = true := HA.out p (List.mem_of_getElem? hx.out)
      have hg : Good h := by rw [hh]; exact runTo_good _ fun o ho => HA.out o (List.mem_of_mem_take ho)
      have HE := Go.Lib.hid (show mStep h p = runTo (cs.take (k + 1)) by rw [take_snoc' hx, runTo_snoc, hh])
      have GG := Go.Lib.hid hg
      have HP := Go.Lib.hid hp
      clear hp hg hh
      have g1 := H.ro q1 hbb
      have g2 := H.ro q2 hbb
      have g3 := H.ro q3 hbb
      have g4 := H.ro q4 hbb
      have H0 := H.box [.int .i64 p.op, .int .i64 p.a, .int .i64 p.b, .int .i64 p.c] 46
      obtain ⟨x0, x1, -, -⟩ := H0.box2 1 rfl
      clear H q1 q2 q3 q4
      go_wp2_with fail
      refine (implStepHeap_any _ _ _ h (H0.rdH 2 3 rfl rfl) p GG.out HP.out).mono ?_
      rintro e w4 ⟨cv, rvs', rv, rfl, K⟩
      replace K := H0.merge K
      simp only [List.cons_append, List.nil_append] at K
      obtain ⟨T, hT⟩ : ∃ T, T = mStep h p := ⟨_, rfl⟩
      rw [← hT] at K HE
      clear hT H0 x0 x1 g1 g2 g3 g4
      obtain ⟨C', kC', rfl, -⟩ := K.formC 0 rfl
      obtain ⟨R', kR', rfl, -⟩ := K.formI 1 rfl
      obtain ⟨x0, x1, x2, x3⟩ := K.box2 3 rfl
      have H7 := ((K.putBox 3 rfl 0 (.slice C' T.cells.length kC')).putBox 3 rfl 1 (.slice R' T.roots.length kR')).places [3, 0, 1, 6] (by decide) (by simp)
      simp only [List.filterMap_cons, List.filterMap_nil, List.getElem?_cons_zero, List.getElem?_cons_succ, List.set_cons_zero, List.set_cons_succ] at H7
      clear K
      go_wp2_with fail
      go_roundw
      case rel => exact ⟨k + 1, C', R', kC', kR', rvs', T, by go_num, by omega, HE.out, H7⟩
      case measure => simp [intOf]; omega
    · have HE := Go.Lib.hid (show runTo cs = h by rw [hh, List.take_of_length_le (by omega)])
      clear hh
      obtain ⟨x0, x1, -, -⟩ := H.box2 0 rfl
      obtain ⟨y0, y1, y2, y3⟩ := H.box2 3 rfl
      have HZ := (H.putBox 3 rfl 0 (.slice C h.cells.length kC)).putBox 3 rfl 1 (.slice R h.roots.length kR)
      simp only [List.set_cons_zero, List.set_cons_succ] at HZ
      obtain ⟨z0, z1, -, -⟩ := HZ.box2 3 rfl
      obtain ⟨z2, -, -, -⟩ := (H.putBox 3 rfl 0 (.slice C h.cells.length kC)).box2 3 rfl
      have HS : Hid (MadeHp w (mRun cs) (.returned (.agg #[.slice C h.cells.length kC, .slice R h.roots.length kR])) _) := Go.Lib.hid (by rw [HF.out, HE.out]; exact ⟨_, rvs, _, rfl, HZ.order [1, 2] (by decide) rfl⟩)
      clear H HZ
      go_wp2
      exact bodyPost_ret (v := .agg #[.slice C h.cells.length kC, .slice R h.roots.length kR]) (by simp [results, Try.results11, go_sem, z0, z1]) rfl HS.out
end Go.Proofs.Ytdkpfggfkhnjfaa
