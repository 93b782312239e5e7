/- A program with a limit of cells, by the reference: for every program that can be read. Printed by gens5.py. -/
import Derived.Test.YtpafdaooddbpkaaSx
import Derived.Test.YtpafdaooddbpkaaZ2
namespace Go.Proofs.Ytpafdaooddbpkaa
open Go.RowKit
set_option maxHeartbeats 6400000 in
set_option maxRecDepth 20000 in
theorem specRunSweep_any (w : World) (B : Nat) (A : Option Addr) (n c : Nat) (cs : List Cmd) (hr : RdQ w B A n c cs) (LI : Int) :
    Calls Try.prog 17 #[.slice A n c, .int .i64 LI] w (MadeHBl w (mRunSwH cs LI) (mRunSwB cs LI)) := by
  have hr := hr.top
  obtain rfl := hr.len
  have hm := Nat.le_trans hr.cap hr.mx
  unfold maxLen at hm
  have H := (Owns.nil w).box [.slice none 0 0, .slice none 0 0] 32
  go_enter Try.func17, Try.ntmps17
  go_wp2_with fail
  refine (specCommandsValid_any _ _ _ _ _ cs (hr.below H.below)).mono ?_
  rintro e w1 ⟨rfl, hb⟩
  replace H := H.call hb
  clear hb
  obtain ⟨y0, y1, y2, y3⟩ := H.box2 0 rfl
  cases hc : cmdsOk cs
  · have HF1 := Go.Lib.hid (swH_no1 (L := LI) hc)
    have HF2 := Go.Lib.hid (swB_no1 (L := LI) hc)
    clear hc
    have HZ := (((H.putBox 0 rfl 0 (.slice none 0 0)).putBox 0 rfl 1 (.slice none 0 0)).noInts).noCells
    simp only [List.set_cons_zero, List.set_cons_succ] at HZ
    obtain ⟨z0, z1, -, -⟩ := HZ.box2 2 rfl
    have HS : Hid (MadeHBl w (mRunSwH cs LI) (mRunSwB cs LI) (.returned (.tuple #[.agg #[.slice none 0 0, .slice none 0 0], .bool false])) _) := Go.Lib.hid (by rw [HF1.out, HF2.out]; exact ⟨_, [], _, rfl, HZ.take 2⟩)
    clear HZ H
    go_wp2
    exact bodyPost_ret (v := .tuple #[.agg #[.slice none 0 0, .slice none 0 0], .bool false]) (by simp [results, Try.results17, go_sem, z0, z1]) rfl HS.out
  go_wp2_with fail
  refine (l1In_b LI 1 40 _).mono ?_
  rintro e w2 ⟨rfl, hw⟩
  obtain rfl := hw
  cases hl : inR LI 1 40
  · have HF1 := Go.Lib.hid (swH_no2 (cs := cs) hl)
    have HF2 := Go.Lib.hid (swB_no2 (cs := cs) hl)
    clear hc hl
    have HZ := (((H.putBox 0 rfl 0 (.slice none 0 0)).putBox 0 rfl 1 (.slice none 0 0)).noInts).noCells
    simp only [List.set_cons_zero, List.set_cons_succ] at HZ
    obtain ⟨z0, z1, -, -⟩ := HZ.box2 2 rfl
    have HS : Hid (MadeHBl w (mRunSwH cs LI) (mRunSwB cs LI) (.returned (.tuple #[.agg #[.slice none 0 0, .slice none 0 0], .bool false])) _) := Go.Lib.hid (by rw [HF1.out, HF2.out]; exact ⟨_, [], _, rfl, HZ.take 2⟩)
    clear HZ H
    go_wp2
    exact bodyPost_ret (v := .tuple #[.agg #[.slice none 0 0, .slice none 0 0], .bool false]) (by simp [results, Try.results17, go_sem, z0, z1]) rfl HS.out
  obtain ⟨q1, q2⟩ := inR_iff.1 hl
  obtain ⟨L, rfl⟩ := Int.eq_ofNat_of_zero_le (show 0 ≤ LI by omega)
  have hL1 : 1 ≤ L := by omega
  have hL2 : L ≤ 40 := by omega
  have HA := Go.Lib.hid (cmdsOk_all hc)
  obtain ⟨RR, hRR⟩ : ∃ r, r = runSw L emptyH cs := ⟨_, rfl⟩
  have HF1 : Hid (mRunSwH cs (L : Int) = RR.1) := Go.Lib.hid (by rw [swH_yes hc hL1 hL2, hRR])
  have HF2 : Hid (mRunSwB cs (L : Int) = RR.2) := Go.Lib.hid (by rw [swB_yes hc hL1 hL2, hRR])
  have HR0 : Hid (runSw L emptyH (cs.drop 0) = RR) := Go.Lib.hid (by rw [hRR, List.drop_zero])
  clear hc hl q1 q2 hRR
  go_wp2_with fail
  refine (specEmptyHeap_any _).mono ?_
  rintro e w3 ⟨cv, rvs, rv, rfl, K⟩
  replace K := H.merge K
  simp only [List.cons_append, List.nil_append] at K
  obtain ⟨C, kC, rfl, -⟩ := K.formC 0 rfl
  obtain ⟨R, kR, rfl, -⟩ := K.formI 1 rfl
  clear H y0 y1 y2 y3
  have H3 := K.box [.slice C emptyH.cells.length kC, .slice R emptyH.roots.length kR] 32
  clear K
  go_wp2_with fail
  go_loopw [7] (fun i wr => ∃ (k : Nat) (C R : Option Addr) (kC kR : Nat) (rvs : List Value) (h : Hp), i = .int .i64 k ∧ k ≤ cs.length ∧ Hid (runSw L h (cs.drop k) = RR) ∧ Hid (Good h) ∧ Owns w.heap.size w wr [.box w3.heap.size [.slice C h.cells.length kC, .slice R h.roots.length kR] 32, .cells (.slice C h.cells.length kC) rvs h.cells, .ints (.slice R h.roots.length kR) h.roots, .box w.heap.size [.slice none 0 0, .slice none 0 0] 32]) (fun i _ => cs.length - (intOf i).toNat)
  case atStart => exact ⟨0, C, R, kC, kR, rvs, emptyH, rfl, Nat.zero_le _, HR0, Go.Lib.hid emptyH_good, H3⟩
  case round =>
    clear H3 HR0
    obtain ⟨k, C, R, kC, kR, rvs, h, rfl, hk, HR, GG, H⟩ := hrel
    obtain ⟨x0, x1, x2, x3⟩ := H.box2 0 rfl
    by_cases hlt : k < cs.length
    · obtain ⟨b, o, p, rfl, hbb, hx, q1, q2, q3, q4⟩ := hr.at_ hlt
      have HP : Hid (cmdOk p = true) := Go.Lib.hid (HA.out p (List.mem_of_getElem? hx.out))
      have HGN := Go.Lib.hid (stepSw_good (L := L) GG.out HP.out hL2)
      have HST := Go.Lib.hid (fun h1 h2 => runSw_stop (p := p) hx HR.out h1 h2)
      have HGO := Go.Lib.hid (fun hn => runSw_go (p := p) hx HR.out hn)
      clear HR
      go_wp2_with fail
      have HX := H.drew
      have H0 := Go.Lib.hid H
      clear H x0 x1 x2 x3
      obtain ⟨x0, x1, -, -⟩ := HX.box2 0 rfl
      have g1 := HX.ro q1 hbb
      have g2 := HX.ro q2 hbb
      have g3 := HX.ro q3 hbb
      have g4 := HX.ro q4 hbb
      refine wp_region_tree (fun w' => (w'.cell? ⟨w3.heap.size, 0, none⟩ = some (.slice C h.cells.length kC) ∧ w'.cell? ⟨w3.heap.size, 1, none⟩ = some (.slice R h.roots.length kR)) ∧ w'.cell? ⟨b, o + k * 4, none⟩ = some (.int .i64 p.op) ∧ w'.cell? ⟨b, o + k * 4 + 1, none⟩ = some (.int .i64 p.a) ∧ w'.cell? ⟨b, o + k * 4 + 2, none⟩ = some (.int .i64 p.b) ∧ w'.cell? ⟨b, o + k * 4 + 3, none⟩ = some (.int .i64 p.c)) 13 [] (.take 0 (.take 1 (.take 2 (.take 3 (.take 4 (.take 5 (.alt 6 (.take 7 (.take 8 (.take 9 (.alt 10 (.alt 11 (.take 12 (.done)) (.stop)) (.stop))))) (.alt 10 (.alt 6 (.take 7 (.take 8 (.take 9 (.alt 11 (.take 12 (.done)) (.stop))))) (.stop)) (.stop))))))))) (by kernel_rfl) (by kernel_rfl) (by kernel_rfl) (⟨⟨x0, x1⟩, g1, g2, g3, g4⟩) ?_
      simp only [fillT, List.getElem?_cons_zero, List.getElem?_cons_succ, Nat.reduceBEq]
      repeat (first
        | (with_reducible refine po_take (v := ?_) ?_ (fun w' hS' => ?_) ?_
           rotate_left
           · (go_simp; done)
           · ((try dsimp only at hS'); go_simp; try with_reducible rfl)
           simp only [Act.put, List.setIfInBounds_toArray, List.set_cons_zero, List.set_cons_succ])
        | (with_reducible refine po_skip ?_ ?_
           · (go_simp; done)
           simp only [Act.put, List.setIfInBounds_toArray, List.set_cons_zero, List.set_cons_succ]))
      with_reducible refine po_run ?_ (fun K hK => ?_) ?_
      · (go_simp; done)
      · -- operation 6 first
        go_simp
        refine (specStepSweep_any _ _ _ h (HX.rdH 1 2 rfl rfl) L hL1 hL2 p GG.out HP.out).mono ?_
        rintro e wa ⟨cv, rvs', rv, rfl, K⟩
        replace K := HX.merge K
        simp only [List.cons_append, List.nil_append] at K
        obtain ⟨T, hT⟩ : ∃ T, T = (stepSw h L p).1 := ⟨_, rfl⟩
        obtain ⟨tb, htb⟩ : ∃ b, b = (stepSw h L p).2 := ⟨_, rfl⟩
        rw [← htb]
        rw [← htb, ← hT] at HST
        rw [← htb, ← hT] at HGO
        rw [← hT] at K HGN
        clear hT htb HX
        have HX := K
        clear K
        obtain ⟨C', kC', rfl, -⟩ := HX.formC 0 rfl
        obtain ⟨R', kR', rfl, -⟩ := HX.formI 1 rfl
        clear x0 x1 g1 g2 g3 g4
        obtain ⟨x0, x1, -, -⟩ := HX.box2 2 rfl
        have g1 := HX.ro q1 hbb
        have g2 := HX.ro q2 hbb
        have g3 := HX.ro q3 hbb
        have g4 := HX.ro q4 hbb
        refine hK.out _ _ (.inr (⟨⟨x0, x1⟩, g1, g2, g3, g4⟩)) ?_
        clear hK K
        repeat (first
          | (with_reducible refine po_take (v := ?_) ?_ (fun w' hS' => ?_) ?_
             rotate_left
             · (go_simp; done)
             · ((try dsimp only at hS'); go_simp; try with_reducible rfl)
             simp only [Act.put, List.setIfInBounds_toArray, List.set_cons_zero, List.set_cons_succ])
          | (with_reducible refine po_skip ?_ ?_
             · (go_simp; done)
             simp only [Act.put, List.setIfInBounds_toArray, List.set_cons_zero, List.set_cons_succ]))
        with_reducible refine po_run ?_ (fun K hK => ?_) ?_
        · (go_simp; done)
        rotate_left
        · exact po_stop
        go_simp
        have HP9 := HX
        replace HX := HX.box [.slice none 0 0, .slice none 0 0] 32
        try simp only [drew_size] at HX
        clear x0 x1 g1 g2 g3 g4
        obtain ⟨x0, x1, -, -⟩ := HX.box2 (1 + 2 * 1) rfl
        have g1 := HX.ro q1 hbb
        have g2 := HX.ro q2 hbb
        have g3 := HX.ro q3 hbb
        have g4 := HX.ro q4 hbb
        refine hK.out _ _ (.inr (⟨⟨x0, x1⟩, g1, g2, g3, g4⟩)) ?_
        clear hK K
        with_reducible refine po_run ?_ (fun K hK => ?_) ?_
        · (go_simp; done)
        rotate_left
        · exact po_stop
        go_simp
        have HZ := HP9.box [.slice C' T.cells.length kC', .slice R' T.roots.length kR'] 32
        have HY := HZ.places [0, 1, 2, 3, 6] (by decide) (by simp); simp only [List.filterMap_cons, List.filterMap_nil, List.getElem?_cons_zero, List.getElem?_cons_succ] at HY
        clear x0 x1 g1 g2 g3 g4 HX HZ HP9
        obtain ⟨x0, x1, -, -⟩ := HY.box2 3 rfl
        have g1 := HY.ro q1 hbb
        have g2 := HY.ro q2 hbb
        have g3 := HY.ro q3 hbb
        have g4 := HY.ro q4 hbb
        refine hK.out _ _ (.inr (⟨⟨x0, x1⟩, g1, g2, g3, g4⟩)) ?_
        clear hK K
        clear x0 x1 g2 g3 g4
        repeat (first
          | (with_reducible refine po_take (v := ?_) ?_ (fun w' hS' => ?_) ?_
             rotate_left
             · (go_simp; done)
             · ((try dsimp only at hS'); go_simp; try with_reducible rfl)
             simp only [Act.put, List.setIfInBounds_toArray, List.set_cons_zero, List.set_cons_succ])
          | (with_reducible refine po_skip ?_ ?_
             · (go_simp; done)
             simp only [Act.put, List.setIfInBounds_toArray, List.set_cons_zero, List.set_cons_succ]))
        refine po_done ?_
        obtain ⟨x0, x1, x2, x3⟩ := HY.box2 3 rfl
        obtain ⟨n0, n1, -, -⟩ := HY.box2 0 rfl
        cases tb
        · by_cases h1 : p.op = 1
          · have HE := Go.Lib.hid (HST.out rfl h1)
            have k3 : (p.op == 1) = true := by simp [h1]
            obtain ⟨y0, y1, y2, y3⟩ := HY.box2 4 rfl
            have HZ := (HY.putBox 4 rfl 0 (.slice C' T.cells.length kC')).putBox 4 rfl 1 (.slice R' T.roots.length kR')
            simp only [List.set_cons_zero, List.set_cons_succ] at HZ
            obtain ⟨z0, z1, -, -⟩ := HZ.box2 4 rfl
            obtain ⟨z2, -, -, -⟩ := (HY.putBox 4 rfl 0 (.slice C' T.cells.length kC')).box2 4 rfl
            have HS : Hid (MadeHBl w (mRunSwH cs (L : Int)) (mRunSwB cs (L : Int)) (.returned (.tuple #[.agg #[.slice C' T.cells.length kC', .slice R' T.roots.length kR'], .bool false])) _) := Go.Lib.hid (by rw [HF1.out, HF2.out, HE.out]; exact ⟨_, rvs', _, rfl, HZ.order [1, 2] (by decide) rfl⟩)
            clear HY H0 HZ q1 q2 q3 q4 h1
            go_wp2
            exact bodyPost_ret (v := .tuple #[.agg #[.slice C' T.cells.length kC', .slice R' T.roots.length kR'], .bool false]) (by simp [results, Try.results17, go_sem, z0, z1]) rfl HS.out
          · have HE := Go.Lib.hid (HGO.out fun k => h1 k.2)
            have k3 : (p.op == 1) = false := by simp [h1]
            have H7 := (((HY.putBox 3 rfl 0 (.slice C' T.cells.length kC')).putBox 3 rfl 1 (.slice R' T.roots.length kR'))).places [3, 1, 2, 4] (by decide) (by simp)
            simp only [List.filterMap_cons, List.filterMap_nil, List.getElem?_cons_zero, List.getElem?_cons_succ, List.set_cons_zero, List.set_cons_succ] at H7
            clear HY H0 q1 q2 q3 q4 h1
            go_wp2_with fail
            go_roundw
            case rel => exact ⟨k + 1, C', R', kC', kR', rvs', T, by go_num, by omega, HE, HGN, H7⟩
            case measure => simp [intOf]; omega
        · have HE := Go.Lib.hid (HGO.out fun k => Bool.noConfusion k.1)
          have H7 := (((HY.putBox 3 rfl 0 (.slice C' T.cells.length kC')).putBox 3 rfl 1 (.slice R' T.roots.length kR'))).places [3, 1, 2, 4] (by decide) (by simp)
          simp only [List.filterMap_cons, List.filterMap_nil, List.getElem?_cons_zero, List.getElem?_cons_succ, List.set_cons_zero, List.set_cons_succ] at H7
          clear HY H0 q1 q2 q3 q4
          go_wp2_with fail
          go_roundw
          case rel => exact ⟨k + 1, C', R', kC', kR', rvs', T, by go_num, by omega, HE, HGN, H7⟩
          case measure => simp [intOf]; omega
      with_reducible refine po_run ?_ (fun K hK => ?_) ?_
      · (go_simp; done)
      rotate_left
      · exact po_stop
      go_simp
      have HP9 := HX
      replace HX := HX.box [.slice none 0 0, .slice none 0 0] 32
      try simp only [drew_size] at HX
      clear x0 x1 g1 g2 g3 g4
      obtain ⟨x0, x1, -, -⟩ := HX.box2 (1 + 2 * 0) rfl
      have g1 := HX.ro q1 hbb
      have g2 := HX.ro q2 hbb
      have g3 := HX.ro q3 hbb
      have g4 := HX.ro q4 hbb
      refine hK.out _ _ (.inr (⟨⟨x0, x1⟩, g1, g2, g3, g4⟩)) ?_
      clear hK K
      with_reducible refine po_run ?_ (fun K hK => ?_) ?_
      · (go_simp; done)
      rotate_left
      · exact po_stop
      go_simp
      refine (specStepSweep_any _ _ _ h (HX.rdH 2 3 rfl rfl) L hL1 hL2 p GG.out HP.out).mono ?_
      rintro e wa ⟨cv, rvs', rv, rfl, K⟩
      replace K := HX.merge K
      simp only [List.cons_append, List.nil_append] at K
      obtain ⟨T, hT⟩ : ∃ T, T = (stepSw h L p).1 := ⟨_, rfl⟩
      obtain ⟨tb, htb⟩ : ∃ b, b = (stepSw h L p).2 := ⟨_, rfl⟩
      rw [← htb]
      rw [← htb, ← hT] at HST
      rw [← htb, ← hT] at HGO
      rw [← hT] at K HGN
      clear hT htb HX
      have HX := K
      clear K
      obtain ⟨C', kC', rfl, -⟩ := HX.formC 0 rfl
      obtain ⟨R', kR', rfl, -⟩ := HX.formI 1 rfl
      clear x0 x1 g1 g2 g3 g4
      obtain ⟨x0, x1, -, -⟩ := HX.box2 3 rfl
      have g1 := HX.ro q1 hbb
      have g2 := HX.ro q2 hbb
      have g3 := HX.ro q3 hbb
      have g4 := HX.ro q4 hbb
      refine hK.out _ _ (.inr (⟨⟨x0, x1⟩, g1, g2, g3, g4⟩)) ?_
      clear hK K
      repeat (first
        | (with_reducible refine po_take (v := ?_) ?_ (fun w' hS' => ?_) ?_
           rotate_left
           · (go_simp; done)
           · ((try dsimp only at hS'); go_simp; try with_reducible rfl)
           simp only [Act.put, List.setIfInBounds_toArray, List.set_cons_zero, List.set_cons_succ])
        | (with_reducible refine po_skip ?_ ?_
           · (go_simp; done)
           simp only [Act.put, List.setIfInBounds_toArray, List.set_cons_zero, List.set_cons_succ]))
      with_reducible refine po_run ?_ (fun K hK => ?_) ?_
      · (go_simp; done)
      rotate_left
      · exact po_stop
      obtain ⟨e0, e1, e2, e3⟩ := HX.box2 2 rfl
      go_simp
      have HZ := (HX.putBox 2 rfl 0 (.slice C' T.cells.length kC')).putBox 2 rfl 1 (.slice R' T.roots.length kR')
      have HY := HZ.places [2, 0, 1, 3, 6] (by decide) (by simp); simp only [List.filterMap_cons, List.filterMap_nil, List.getElem?_cons_zero, List.getElem?_cons_succ, List.set_cons_zero, List.set_cons_succ] at HY
      clear x0 x1 g1 g2 g3 g4 HX HZ HP9
      obtain ⟨x0, x1, -, -⟩ := HY.box2 3 rfl
      have g1 := HY.ro q1 hbb
      have g2 := HY.ro q2 hbb
      have g3 := HY.ro q3 hbb
      have g4 := HY.ro q4 hbb
      refine hK.out _ _ (.inr (⟨⟨x0, x1⟩, g1, g2, g3, g4⟩)) ?_
      clear hK K
      clear x0 x1 g2 g3 g4
      repeat (first
        | (with_reducible refine po_take (v := ?_) ?_ (fun w' hS' => ?_) ?_
           rotate_left
           · (go_simp; done)
           · ((try dsimp only at hS'); go_simp; try with_reducible rfl)
           simp only [Act.put, List.setIfInBounds_toArray, List.set_cons_zero, List.set_cons_succ])
        | (with_reducible refine po_skip ?_ ?_
           · (go_simp; done)
           simp only [Act.put, List.setIfInBounds_toArray, List.set_cons_zero, List.set_cons_succ]))
      refine po_done ?_
      obtain ⟨x0, x1, x2, x3⟩ := HY.box2 3 rfl
      obtain ⟨n0, n1, -, -⟩ := HY.box2 0 rfl
      cases tb
      · by_cases h1 : p.op = 1
        · have HE := Go.Lib.hid (HST.out rfl h1)
          have k3 : (p.op == 1) = true := by simp [h1]
          obtain ⟨y0, y1, y2, y3⟩ := HY.box2 4 rfl
          have HZ := (HY.putBox 4 rfl 0 (.slice C' T.cells.length kC')).putBox 4 rfl 1 (.slice R' T.roots.length kR')
          simp only [List.set_cons_zero, List.set_cons_succ] at HZ
          obtain ⟨z0, z1, -, -⟩ := HZ.box2 4 rfl
          obtain ⟨z2, -, -, -⟩ := (HY.putBox 4 rfl 0 (.slice C' T.cells.length kC')).box2 4 rfl
          have HS : Hid (MadeHBl w (mRunSwH cs (L : Int)) (mRunSwB cs (L : Int)) (.returned (.tuple #[.agg #[.slice C' T.cells.length kC', .slice R' T.roots.length kR'], .bool false])) _) := Go.Lib.hid (by rw [HF1.out, HF2.out, HE.out]; exact ⟨_, rvs', _, rfl, HZ.order [1, 2] (by decide) rfl⟩)
          clear HY H0 HZ q1 q2 q3 q4 h1
          go_wp2
          exact bodyPost_ret (v := .tuple #[.agg #[.slice C' T.cells.length kC', .slice R' T.roots.length kR'], .bool false]) (by simp [results, Try.results17, go_sem, z0, z1]) rfl HS.out
        · have HE := Go.Lib.hid (HGO.out fun k => h1 k.2)
          have k3 : (p.op == 1) = false := by simp [h1]
          have H7 := (((HY.putBox 3 rfl 0 (.slice C' T.cells.length kC')).putBox 3 rfl 1 (.slice R' T.roots.length kR'))).places [3, 1, 2, 4] (by decide) (by simp)
          simp only [List.filterMap_cons, List.filterMap_nil, List.getElem?_cons_zero, List.getElem?_cons_succ, List.set_cons_zero, List.set_cons_succ] at H7
          clear HY H0 q1 q2 q3 q4 h1
          go_wp2_with fail
          go_roundw
          case rel => exact ⟨k + 1, C', R', kC', kR', rvs', T, by go_num, by omega, HE, HGN, H7⟩
          case measure => simp [intOf]; omega
      · have HE := Go.Lib.hid (HGO.out fun k => Bool.noConfusion k.1)
        have H7 := (((HY.putBox 3 rfl 0 (.slice C' T.cells.length kC')).putBox 3 rfl 1 (.slice R' T.roots.length kR'))).places [3, 1, 2, 4] (by decide) (by simp)
        simp only [List.filterMap_cons, List.filterMap_nil, List.getElem?_cons_zero, List.getElem?_cons_succ, List.set_cons_zero, List.set_cons_succ] at H7
        clear HY H0 q1 q2 q3 q4
        go_wp2_with fail
        go_roundw
        case rel => exact ⟨k + 1, C', R', kC', kR', rvs', T, by go_num, by omega, HE, HGN, H7⟩
        case measure => simp [intOf]; omega
    · have HE := Go.Lib.hid (runSw_out (by omega) HR.out)
      obtain ⟨y0, y1, y2, y3⟩ := H.box2 3 rfl
      have HZ := (H.putBox 3 rfl 0 (.slice C h.cells.length kC)).putBox 3 rfl 1 (.slice R h.roots.length kR)
      simp only [List.set_cons_zero, List.set_cons_succ] at HZ
      obtain ⟨z0, z1, -, -⟩ := HZ.box2 3 rfl
      obtain ⟨z2, -, -, -⟩ := (H.putBox 3 rfl 0 (.slice C h.cells.length kC)).box2 3 rfl
      have HS : Hid (MadeHBl w (mRunSwH cs (L : Int)) (mRunSwB cs (L : Int)) (.returned (.tuple #[.agg #[.slice C h.cells.length kC, .slice R h.roots.length kR], .bool true])) _) := Go.Lib.hid (by rw [HF1.out, HF2.out, HE.out]; exact ⟨_, rvs, _, rfl, HZ.order [1, 2] (by decide) rfl⟩)
      clear H HZ
      go_wp2
      exact bodyPost_ret (v := .tuple #[.agg #[.slice C h.cells.length kC, .slice R h.roots.length kR], .bool true]) (by simp [results, Try.results17, go_sem, z0, z1]) rfl HS.out
end Go.Proofs.Ytpafdaooddbpkaa
