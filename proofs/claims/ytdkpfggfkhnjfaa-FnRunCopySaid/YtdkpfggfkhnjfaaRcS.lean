/- A program with a limit of cells that copies, by the reference: for every program that can be read. Printed by genrc.py. -/
import Derived.Test.YtdkpfggfkhnjfaaRy
import Derived.Test.YtdkpfggfkhnjfaaRn
import Derived.Test.YtdkpfggfkhnjfaaCys
namespace Go.Proofs.Ytdkpfggfkhnjfaa
open Go.RowKit
set_option maxHeartbeats 6400000 in
set_option maxRecDepth 20000 in
theorem specRunCopy_any (w : World) (B : Nat) (A : Option Addr) (n c : Nat) (cs : List Cmd) (hr : RdQ w B A n c cs) (LI : Int) :
    Calls Try.prog 6 #[.slice A n c, .int .i64 LI] w (MadeHBl w (mRunCpH mCopy cs LI) (mRunCpB mCopy cs LI)) := by
  have hr := hr.top
  obtain rfl := hr.len
  have hm := Nat.le_trans hr.cap hr.mx
  unfold maxLen at hm
  have H := (Owns.nil w).box [.slice none 0 0, .slice none 0 0] 29
  go_enter Try.func6, Try.ntmps6
  go_wp2_with fail
  refine (specCommandsValid_any _ _ _ _ _ cs (hr.below H.below)).mono ?_
  rintro e w1 ⟨rfl, hb⟩
  replace H := H.call hb
  clear hb
  obtain ⟨y0, y1, y2, y3⟩ := H.box2 0 rfl
  cases hc : cmdsOk cs
  · have HF1 := Go.Lib.hid (cpH_no1 (mv := mCopy) (LI := LI) hc)
    have HF2 := Go.Lib.hid (cpB_no1 (mv := mCopy) (LI := LI) hc)
    clear hc
    have HZ := (((H.putBox 0 rfl 0 (.slice none 0 0)).putBox 0 rfl 1 (.slice none 0 0)).noInts).noCells
    simp only [List.set_cons_zero, List.set_cons_succ, List.eraseIdx_cons_zero, List.eraseIdx_cons_succ, List.drop_succ_cons, List.drop_zero, List.take_succ_cons, List.take_zero, List.length_append, List.length_cons, List.length_nil, List.nil_append, Nat.zero_add, World.size_alloc] at HZ
    obtain ⟨z0, z1, -, -⟩ := HZ.box2 2 rfl
    have HS : Hid (MadeHBl w (mRunCpH mCopy cs LI) (mRunCpB mCopy cs LI) (.returned (.tuple #[.agg #[.slice none 0 0, .slice none 0 0], .bool false])) _) := Go.Lib.hid (by rw [HF1.out, HF2.out]; exact ⟨_, [], _, rfl, HZ.take 2⟩)
    clear HZ H
    go_wp2
    exact bodyPost_ret (v := .tuple #[.agg #[.slice none 0 0, .slice none 0 0], .bool false]) (by simp [results, Try.results6, go_sem, z0, z1]) rfl HS.out
  go_wp2_with fail
  refine (l1In_b LI 1 40 _).mono ?_
  rintro e w2 ⟨rfl, hw⟩
  obtain rfl := hw
  cases hl : inR LI 1 40
  · have HF1 := Go.Lib.hid (cpH_no2 (mv := mCopy) (cs := cs) hl)
    have HF2 := Go.Lib.hid (cpB_no2 (mv := mCopy) (cs := cs) hl)
    clear hc hl
    have HZ := (((H.putBox 0 rfl 0 (.slice none 0 0)).putBox 0 rfl 1 (.slice none 0 0)).noInts).noCells
    simp only [List.set_cons_zero, List.set_cons_succ, List.eraseIdx_cons_zero, List.eraseIdx_cons_succ, List.drop_succ_cons, List.drop_zero, List.take_succ_cons, List.take_zero, List.length_append, List.length_cons, List.length_nil, List.nil_append, Nat.zero_add, World.size_alloc] at HZ
    obtain ⟨z0, z1, -, -⟩ := HZ.box2 2 rfl
    have HS : Hid (MadeHBl w (mRunCpH mCopy cs LI) (mRunCpB mCopy cs LI) (.returned (.tuple #[.agg #[.slice none 0 0, .slice none 0 0], .bool false])) _) := Go.Lib.hid (by rw [HF1.out, HF2.out]; exact ⟨_, [], _, rfl, HZ.take 2⟩)
    clear HZ H
    go_wp2
    exact bodyPost_ret (v := .tuple #[.agg #[.slice none 0 0, .slice none 0 0], .bool false]) (by simp [results, Try.results6, go_sem, z0, z1]) rfl HS.out
  obtain ⟨q1, q2⟩ := inR_iff.1 hl
  obtain ⟨L, rfl⟩ := Int.eq_ofNat_of_zero_le (show 0 ≤ LI by omega)
  have hL1 : 1 ≤ L := by omega
  have hL2 : L ≤ 40 := by omega
  have HA := Go.Lib.hid (cmdsOk_all hc)
  obtain ⟨RR, hRR⟩ : ∃ r, r = runCp mCopy L emptyH cs := ⟨_, rfl⟩
  have HF1 : Hid (mRunCpH mCopy cs (L : Int) = RR.1) := Go.Lib.hid (by rw [cpH_yes hc hL1 hL2, hRR])
  have HF2 : Hid (mRunCpB mCopy cs (L : Int) = RR.2) := Go.Lib.hid (by rw [cpB_yes hc hL1 hL2, hRR])
  have HR0 : Hid (runCp mCopy L emptyH (cs.drop 0) = RR) := Go.Lib.hid (by rw [hRR, List.drop_zero])
  clear hc hl q1 q2 hRR
  go_wp2_with fail
  refine (specEmptyHeap_any _).mono ?_
  rintro e w3 ⟨cv, rvs, rv, rfl, K⟩
  replace K := H.merge K
  simp only [List.cons_append, List.nil_append] at K
  obtain ⟨C, kC, rfl, -⟩ := K.formC 0 rfl
  obtain ⟨R, kR, rfl, -⟩ := K.formI 1 rfl
  clear H y0 y1 y2 y3
  have H3 := K.box [.slice C emptyH.cells.length kC, .slice R emptyH.roots.length kR] 29
  clear K
  go_wp2_with fail
  go_loopw [7] (fun i wr => ∃ (k : Nat) (C R : Option Addr) (kC kR : Nat) (rvs : List Value) (h : Hp), i = .int .i64 k ∧ k ≤ cs.length ∧ Hid (runCp mCopy L h (cs.drop k) = RR) ∧ Hid (Good h) ∧ Owns w.heap.size w wr [.box w3.heap.size [.slice C h.cells.length kC, .slice R h.roots.length kR] 29, .cells (.slice C h.cells.length kC) rvs h.cells, .ints (.slice R h.roots.length kR) h.roots, .box w.heap.size [.slice none 0 0, .slice none 0 0] 29]) (fun i _ => cs.length - (intOf i).toNat)
  case atStart => exact ⟨0, C, R, kC, kR, rvs, emptyH, rfl, Nat.zero_le _, HR0, Go.Lib.hid emptyH_good, H3⟩
  case round =>
    clear H3 HR0
    obtain ⟨k, C, R, kC, kR, rvs, h, rfl, hk, HR, GG, H⟩ := hrel
    obtain ⟨x0, x1, x2, x3⟩ := H.box2 0 rfl
    by_cases hlt : k < cs.length
    · obtain ⟨b, o, p, rfl, hbb, hx, q1, q2, q3, q4⟩ := hr.at_ hlt
      have HP : Hid (cmdOk p = true) := Go.Lib.hid (HA.out p (List.mem_of_getElem? hx.out))
      have g1 := H.ro q1 hbb
      have g2 := H.ro q2 hbb
      have g3 := H.ro q3 hbb
      have g4 := H.ro q4 hbb
      by_cases hm : p.op = 1 ∧ L ≤ h.cells.length
      rotate_left
      · have HE : Hid (runCp mCopy L (mStep h p) (cs.drop (k + 1)) = RR) := Go.Lib.hid (runCp_go hx HR.out hm)
        clear HR
        by_cases h1 : p.op = 1
        · have k3 : (p.op == 1) = true := by simp [h1]
          have k4 : ¬ (L : Int) ≤ (h.cells.length : Int) := by omega
          clear h1 hm
          have HTG : Hid (Good (mStep h p)) := Go.Lib.hid (mStep_good GG.out HP.out)
          go_wp2_with fail
          have HX := H.drew
          have H0 := Go.Lib.hid H
          clear H x0 x1 x2 x3 g1 g2 g3 g4
          obtain ⟨x0, x1, -, -⟩ := HX.box2 0 rfl
          have g1 := HX.ro q1 hbb
          have g2 := HX.ro q2 hbb
          have g3 := HX.ro q3 hbb
          have g4 := HX.ro q4 hbb
          refine wp_region_tree (fun w' => (w'.cell? ⟨w3.heap.size, 0, none⟩ = some (.slice C h.cells.length kC) ∧ w'.cell? ⟨w3.heap.size, 1, none⟩ = some (.slice R h.roots.length kR)) ∧ w'.cell? ⟨b, o + k * 4, none⟩ = some (.int .i64 p.op) ∧ w'.cell? ⟨b, o + k * 4 + 1, none⟩ = some (.int .i64 p.a) ∧ w'.cell? ⟨b, o + k * 4 + 2, none⟩ = some (.int .i64 p.b) ∧ w'.cell? ⟨b, o + k * 4 + 3, none⟩ = some (.int .i64 p.c)) 12 [] (.take 0 (.take 1 (.take 2 (.take 3 (.take 4 (.alt 5 (.take 6 (.take 7 (.take 8 (.alt 9 (.alt 10 (.take 11 (.done)) (.stop)) (.stop))))) (.alt 9 (.alt 5 (.take 6 (.take 7 (.take 8 (.alt 10 (.take 11 (.done)) (.stop))))) (.stop)) (.stop)))))))) (by kernel_rfl) (by kernel_rfl) (by kernel_rfl) (⟨⟨x0, x1⟩, g1, g2, g3, g4⟩) ?_
          simp only [fillT, List.getElem?_cons_zero, List.getElem?_cons_succ, Nat.reduceBEq]
          repeat (first
            | (with_reducible refine po_take (v := ?_) ?_ (fun w' hS' => ?_) ?_
               rotate_left
               · (go_simp; done)
               · ((try dsimp only at hS'); go_simp; try with_reducible rfl)
               simp only [Act.put, List.setIfInBounds_toArray, List.set_cons_zero, List.set_cons_succ])
            | (with_reducible refine po_skip ?_ ?_
               · (go_simp; done)
               simp only [Act.put, List.setIfInBounds_toArray, List.set_cons_zero, List.set_cons_succ]))
          with_reducible refine po_run ?_ (fun K hK => ?_) ?_
          · (go_simp; done)
          · -- operation 5 first
            go_simp
            refine (stepHeap_any _ _ _ h (HX.rdH 1 2 rfl rfl) p GG.out HP.out).mono ?_
            rintro e wa ⟨cv, rvs', rv, rfl, K⟩
            replace K := HX.merge K
            simp only [List.cons_append, List.nil_append] at K
            obtain ⟨T, hT⟩ : ∃ T, T = mStep h p := ⟨_, rfl⟩
            rw [← hT] at K HE HTG
            clear hT HX
            have HX := K
            clear K
            obtain ⟨C', kC', rfl, -⟩ := HX.formC 0 rfl
            obtain ⟨R', kR', rfl, -⟩ := HX.formI 1 rfl
            clear x0 x1 g1 g2 g3 g4
            obtain ⟨x0, x1, -, -⟩ := HX.box2 2 rfl
            have g1 := HX.ro q1 hbb
            have g2 := HX.ro q2 hbb
            have g3 := HX.ro q3 hbb
            have g4 := HX.ro q4 hbb
            refine hK.out _ _ (.inr (⟨⟨x0, x1⟩, g1, g2, g3, g4⟩)) ?_
            clear hK K
            repeat (first
              | (with_reducible refine po_take (v := ?_) ?_ (fun w' hS' => ?_) ?_
                 rotate_left
                 · (go_simp; done)
                 · ((try dsimp only at hS'); go_simp; try with_reducible rfl)
                 simp only [Act.put, List.setIfInBounds_toArray, List.set_cons_zero, List.set_cons_succ])
              | (with_reducible refine po_skip ?_ ?_
                 · (go_simp; done)
                 simp only [Act.put, List.setIfInBounds_toArray, List.set_cons_zero, List.set_cons_succ]))
            with_reducible refine po_run ?_ (fun K hK => ?_) ?_
            · (go_simp; done)
            rotate_left
            · exact po_stop
            go_simp
            have HP9 := HX
            replace HX := HX.box [.slice none 0 0, .slice none 0 0] 29
            try simp only [drew_size, World.size_setCell] at HX
            clear x0 x1 g1 g2 g3 g4
            obtain ⟨x0, x1, -, -⟩ := HX.box2 (1 + 2 * 1) rfl
            have g1 := HX.ro q1 hbb
            have g2 := HX.ro q2 hbb
            have g3 := HX.ro q3 hbb
            have g4 := HX.ro q4 hbb
            refine hK.out _ _ (.inr (⟨⟨x0, x1⟩, g1, g2, g3, g4⟩)) ?_
            clear hK K
            with_reducible refine po_run ?_ (fun K hK => ?_) ?_
            · (go_simp; done)
            rotate_left
            · exact po_stop
            go_simp
            have HZ := HP9.box [.slice C' T.cells.length kC', .slice R' T.roots.length kR'] 29
            have HY := HZ.places [0, 1, 2, 3, 6] (by decide) (by simp); simp only [List.filterMap_cons, List.filterMap_nil, List.getElem?_cons_zero, List.getElem?_cons_succ] at HY
            clear x0 x1 g1 g2 g3 g4 HX HZ HP9
            obtain ⟨x0, x1, -, -⟩ := HY.box2 3 rfl
            have g1 := HY.ro q1 hbb
            have g2 := HY.ro q2 hbb
            have g3 := HY.ro q3 hbb
            have g4 := HY.ro q4 hbb
            refine hK.out _ _ (.inr (⟨⟨x0, x1⟩, g1, g2, g3, g4⟩)) ?_
            clear hK K
            clear x0 x1 g1 g2 g3 g4
            repeat (first
              | (with_reducible refine po_take (v := ?_) ?_ (fun w' hS' => ?_) ?_
                 rotate_left
                 · (go_simp; done)
                 · ((try dsimp only at hS'); go_simp; try with_reducible rfl)
                 simp only [Act.put, List.setIfInBounds_toArray, List.set_cons_zero, List.set_cons_succ])
              | (with_reducible refine po_skip ?_ ?_
                 · (go_simp; done)
                 simp only [Act.put, List.setIfInBounds_toArray, List.set_cons_zero, List.set_cons_succ]))
            refine po_done ?_
            obtain ⟨x0, x1, x2, x3⟩ := HY.box2 3 rfl
            obtain ⟨n0, n1, -, -⟩ := HY.box2 0 rfl
            have H7 := (((HY.putBox 3 rfl 0 (.slice C' T.cells.length kC')).putBox 3 rfl 1 (.slice R' T.roots.length kR'))).places [3, 1, 2, 4] (by decide) (by simp)
            simp only [List.filterMap_cons, List.filterMap_nil, List.getElem?_cons_zero, List.getElem?_cons_succ, List.set_cons_zero, List.set_cons_succ] at H7
            clear HY H0 q1 q2 q3 q4
            go_wp2_with fail
            go_roundw
            case rel => exact ⟨k + 1, C', R', kC', kR', rvs', T, by go_num, by omega, HE, HTG, H7⟩
            case measure => simp [intOf]; omega
          with_reducible refine po_run ?_ (fun K hK => ?_) ?_
          · (go_simp; done)
          rotate_left
          · exact po_stop
          go_simp
          have HP9 := HX
          replace HX := HX.box [.slice none 0 0, .slice none 0 0] 29
          try simp only [drew_size, World.size_setCell] at HX
          clear x0 x1 g1 g2 g3 g4
          obtain ⟨x0, x1, -, -⟩ := HX.box2 (1 + 2 * 0) rfl
          have g1 := HX.ro q1 hbb
          have g2 := HX.ro q2 hbb
          have g3 := HX.ro q3 hbb
          have g4 := HX.ro q4 hbb
          refine hK.out _ _ (.inr (⟨⟨x0, x1⟩, g1, g2, g3, g4⟩)) ?_
          clear hK K
          with_reducible refine po_run ?_ (fun K hK => ?_) ?_
          · (go_simp; done)
          rotate_left
          · exact po_stop
          go_simp
          refine (stepHeap_any _ _ _ h (HX.rdH 2 3 rfl rfl) p GG.out HP.out).mono ?_
          rintro e wa ⟨cv, rvs', rv, rfl, K⟩
          replace K := HX.merge K
          simp only [List.cons_append, List.nil_append] at K
          obtain ⟨T, hT⟩ : ∃ T, T = mStep h p := ⟨_, rfl⟩
          rw [← hT] at K HE HTG
          clear hT HX
          have HX := K
          clear K
          obtain ⟨C', kC', rfl, -⟩ := HX.formC 0 rfl
          obtain ⟨R', kR', rfl, -⟩ := HX.formI 1 rfl
          clear x0 x1 g1 g2 g3 g4
          obtain ⟨x0, x1, -, -⟩ := HX.box2 3 rfl
          have g1 := HX.ro q1 hbb
          have g2 := HX.ro q2 hbb
          have g3 := HX.ro q3 hbb
          have g4 := HX.ro q4 hbb
          refine hK.out _ _ (.inr (⟨⟨x0, x1⟩, g1, g2, g3, g4⟩)) ?_
          clear hK K
          repeat (first
            | (with_reducible refine po_take (v := ?_) ?_ (fun w' hS' => ?_) ?_
               rotate_left
               · (go_simp; done)
               · ((try dsimp only at hS'); go_simp; try with_reducible rfl)
               simp only [Act.put, List.setIfInBounds_toArray, List.set_cons_zero, List.set_cons_succ])
            | (with_reducible refine po_skip ?_ ?_
               · (go_simp; done)
               simp only [Act.put, List.setIfInBounds_toArray, List.set_cons_zero, List.set_cons_succ]))
          with_reducible refine po_run ?_ (fun K hK => ?_) ?_
          · (go_simp; done)
          rotate_left
          · exact po_stop
          obtain ⟨e0, e1, e2, e3⟩ := HX.box2 2 rfl
          go_simp
          have HZ := (HX.putBox 2 rfl 0 (.slice C' T.cells.length kC')).putBox 2 rfl 1 (.slice R' T.roots.length kR')
          have HY := HZ.places [2, 0, 1, 3, 6] (by decide) (by simp); simp only [List.filterMap_cons, List.filterMap_nil, List.getElem?_cons_zero, List.getElem?_cons_succ, List.set_cons_zero, List.set_cons_succ] at HY
          clear x0 x1 g1 g2 g3 g4 HX HZ HP9
          obtain ⟨x0, x1, -, -⟩ := HY.box2 3 rfl
          have g1 := HY.ro q1 hbb
          have g2 := HY.ro q2 hbb
          have g3 := HY.ro q3 hbb
          have g4 := HY.ro q4 hbb
          refine hK.out _ _ (.inr (⟨⟨x0, x1⟩, g1, g2, g3, g4⟩)) ?_
          clear hK K
          clear x0 x1 g1 g2 g3 g4
          repeat (first
            | (with_reducible refine po_take (v := ?_) ?_ (fun w' hS' => ?_) ?_
               rotate_left
               · (go_simp; done)
               · ((try dsimp only at hS'); go_simp; try with_reducible rfl)
               simp only [Act.put, List.setIfInBounds_toArray, List.set_cons_zero, List.set_cons_succ])
            | (with_reducible refine po_skip ?_ ?_
               · (go_simp; done)
               simp only [Act.put, List.setIfInBounds_toArray, List.set_cons_zero, List.set_cons_succ]))
          refine po_done ?_
          obtain ⟨x0, x1, x2, x3⟩ := HY.box2 3 rfl
          obtain ⟨n0, n1, -, -⟩ := HY.box2 0 rfl
          have H7 := (((HY.putBox 3 rfl 0 (.slice C' T.cells.length kC')).putBox 3 rfl 1 (.slice R' T.roots.length kR'))).places [3, 1, 2, 4] (by decide) (by simp)
          simp only [List.filterMap_cons, List.filterMap_nil, List.getElem?_cons_zero, List.getElem?_cons_succ, List.set_cons_zero, List.set_cons_succ] at H7
          clear HY H0 q1 q2 q3 q4
          go_wp2_with fail
          go_roundw
          case rel => exact ⟨k + 1, C', R', kC', kR', rvs', T, by go_num, by omega, HE, HTG, H7⟩
          case measure => simp [intOf]; omega
        · have k3 : (p.op == 1) = false := by simp [h1]
          clear h1 hm
          have HTG : Hid (Good (mStep h p)) := Go.Lib.hid (mStep_good GG.out HP.out)
          go_wp2_with fail
          have HX := H.drew
          have H0 := Go.Lib.hid H
          clear H x0 x1 x2 x3 g1 g2 g3 g4
          obtain ⟨x0, x1, -, -⟩ := HX.box2 0 rfl
          have g1 := HX.ro q1 hbb
          have g2 := HX.ro q2 hbb
          have g3 := HX.ro q3 hbb
          have g4 := HX.ro q4 hbb
          refine wp_region_tree (fun w' => (w'.cell? ⟨w3.heap.size, 0, none⟩ = some (.slice C h.cells.length kC) ∧ w'.cell? ⟨w3.heap.size, 1, none⟩ = some (.slice R h.roots.length kR)) ∧ w'.cell? ⟨b, o + k * 4, none⟩ = some (.int .i64 p.op) ∧ w'.cell? ⟨b, o + k * 4 + 1, none⟩ = some (.int .i64 p.a) ∧ w'.cell? ⟨b, o + k * 4 + 2, none⟩ = some (.int .i64 p.b) ∧ w'.cell? ⟨b, o + k * 4 + 3, none⟩ = some (.int .i64 p.c)) 12 [] (.take 0 (.take 1 (.take 2 (.take 3 (.take 4 (.alt 5 (.take 6 (.take 7 (.take 8 (.alt 9 (.alt 10 (.take 11 (.done)) (.stop)) (.stop))))) (.alt 9 (.alt 5 (.take 6 (.take 7 (.take 8 (.alt 10 (.take 11 (.done)) (.stop))))) (.stop)) (.stop)))))))) (by kernel_rfl) (by kernel_rfl) (by kernel_rfl) (⟨⟨x0, x1⟩, g1, g2, g3, g4⟩) ?_
          simp only [fillT, List.getElem?_cons_zero, List.getElem?_cons_succ, Nat.reduceBEq]
          repeat (first
            | (with_reducible refine po_take (v := ?_) ?_ (fun w' hS' => ?_) ?_
               rotate_left
               · (go_simp; done)
               · ((try dsimp only at hS'); go_simp; try with_reducible rfl)
               simp only [Act.put, List.setIfInBounds_toArray, List.set_cons_zero, List.set_cons_succ])
            | (with_reducible refine po_skip ?_ ?_
               · (go_simp; done)
               simp only [Act.put, List.setIfInBounds_toArray, List.set_cons_zero, List.set_cons_succ]))
          with_reducible refine po_run ?_ (fun K hK => ?_) ?_
          · (go_simp; done)
          · -- operation 5 first
            go_simp
            refine (stepHeap_any _ _ _ h (HX.rdH 1 2 rfl rfl) p GG.out HP.out).mono ?_
            rintro e wa ⟨cv, rvs', rv, rfl, K⟩
            replace K := HX.merge K
            simp only [List.cons_append, List.nil_append] at K
            obtain ⟨T, hT⟩ : ∃ T, T = mStep h p := ⟨_, rfl⟩
            rw [← hT] at K HE HTG
            clear hT HX
            have HX := K
            clear K
            obtain ⟨C', kC', rfl, -⟩ := HX.formC 0 rfl
            obtain ⟨R', kR', rfl, -⟩ := HX.formI 1 rfl
            clear x0 x1 g1 g2 g3 g4
            obtain ⟨x0, x1, -, -⟩ := HX.box2 2 rfl
            have g1 := HX.ro q1 hbb
            have g2 := HX.ro q2 hbb
            have g3 := HX.ro q3 hbb
            have g4 := HX.ro q4 hbb
            refine hK.out _ _ (.inr (⟨⟨x0, x1⟩, g1, g2, g3, g4⟩)) ?_
            clear hK K
            repeat (first
              | (with_reducible refine po_take (v := ?_) ?_ (fun w' hS' => ?_) ?_
                 rotate_left
                 · (go_simp; done)
                 · ((try dsimp only at hS'); go_simp; try with_reducible rfl)
                 simp only [Act.put, List.setIfInBounds_toArray, List.set_cons_zero, List.set_cons_succ])
              | (with_reducible refine po_skip ?_ ?_
                 · (go_simp; done)
                 simp only [Act.put, List.setIfInBounds_toArray, List.set_cons_zero, List.set_cons_succ]))
            with_reducible refine po_run ?_ (fun K hK => ?_) ?_
            · (go_simp; done)
            rotate_left
            · exact po_stop
            go_simp
            have HP9 := HX
            replace HX := HX.box [.slice none 0 0, .slice none 0 0] 29
            try simp only [drew_size, World.size_setCell] at HX
            clear x0 x1 g1 g2 g3 g4
            obtain ⟨x0, x1, -, -⟩ := HX.box2 (1 + 2 * 1) rfl
            have g1 := HX.ro q1 hbb
            have g2 := HX.ro q2 hbb
            have g3 := HX.ro q3 hbb
            have g4 := HX.ro q4 hbb
            refine hK.out _ _ (.inr (⟨⟨x0, x1⟩, g1, g2, g3, g4⟩)) ?_
            clear hK K
            with_reducible refine po_run ?_ (fun K hK => ?_) ?_
            · (go_simp; done)
            rotate_left
            · exact po_stop
            go_simp
            have HZ := HP9.box [.slice C' T.cells.length kC', .slice R' T.roots.length kR'] 29
            have HY := HZ.places [0, 1, 2, 3, 6] (by decide) (by simp); simp only [List.filterMap_cons, List.filterMap_nil, List.getElem?_cons_zero, List.getElem?_cons_succ] at HY
            clear x0 x1 g1 g2 g3 g4 HX HZ HP9
            obtain ⟨x0, x1, -, -⟩ := HY.box2 3 rfl
            have g1 := HY.ro q1 hbb
            have g2 := HY.ro q2 hbb
            have g3 := HY.ro q3 hbb
            have g4 := HY.ro q4 hbb
            refine hK.out _ _ (.inr (⟨⟨x0, x1⟩, g1, g2, g3, g4⟩)) ?_
            clear hK K
            clear x0 x1 g1 g2 g3 g4
            repeat (first
              | (with_reducible refine po_take (v := ?_) ?_ (fun w' hS' => ?_) ?_
                 rotate_left
                 · (go_simp; done)
                 · ((try dsimp only at hS'); go_simp; try with_reducible rfl)
                 simp only [Act.put, List.setIfInBounds_toArray, List.set_cons_zero, List.set_cons_succ])
              | (with_reducible refine po_skip ?_ ?_
                 · (go_simp; done)
                 simp only [Act.put, List.setIfInBounds_toArray, List.set_cons_zero, List.set_cons_succ]))
            refine po_done ?_
            obtain ⟨x0, x1, x2, x3⟩ := HY.box2 3 rfl
            obtain ⟨n0, n1, -, -⟩ := HY.box2 0 rfl
            have H7 := (((HY.putBox 3 rfl 0 (.slice C' T.cells.length kC')).putBox 3 rfl 1 (.slice R' T.roots.length kR'))).places [3, 1, 2, 4] (by decide) (by simp)
            simp only [List.filterMap_cons, List.filterMap_nil, List.getElem?_cons_zero, List.getElem?_cons_succ, List.set_cons_zero, List.set_cons_succ] at H7
            clear HY H0 q1 q2 q3 q4
            go_wp2_with fail
            go_roundw
            case rel => exact ⟨k + 1, C', R', kC', kR', rvs', T, by go_num, by omega, HE, HTG, H7⟩
            case measure => simp [intOf]; omega
          with_reducible refine po_run ?_ (fun K hK => ?_) ?_
          · (go_simp; done)
          rotate_left
          · exact po_stop
          go_simp
          have HP9 := HX
          replace HX := HX.box [.slice none 0 0, .slice none 0 0] 29
          try simp only [drew_size, World.size_setCell] at HX
          clear x0 x1 g1 g2 g3 g4
          obtain ⟨x0, x1, -, -⟩ := HX.box2 (1 + 2 * 0) rfl
          have g1 := HX.ro q1 hbb
          have g2 := HX.ro q2 hbb
          have g3 := HX.ro q3 hbb
          have g4 := HX.ro q4 hbb
          refine hK.out _ _ (.inr (⟨⟨x0, x1⟩, g1, g2, g3, g4⟩)) ?_
          clear hK K
          with_reducible refine po_run ?_ (fun K hK => ?_) ?_
          · (go_simp; done)
          rotate_left
          · exact po_stop
          go_simp
          refine (stepHeap_any _ _ _ h (HX.rdH 2 3 rfl rfl) p GG.out HP.out).mono ?_
          rintro e wa ⟨cv, rvs', rv, rfl, K⟩
          replace K := HX.merge K
          simp only [List.cons_append, List.nil_append] at K
          obtain ⟨T, hT⟩ : ∃ T, T = mStep h p := ⟨_, rfl⟩
          rw [← hT] at K HE HTG
          clear hT HX
          have HX := K
          clear K
          obtain ⟨C', kC', rfl, -⟩ := HX.formC 0 rfl
          obtain ⟨R', kR', rfl, -⟩ := HX.formI 1 rfl
          clear x0 x1 g1 g2 g3 g4
          obtain ⟨x0, x1, -, -⟩ := HX.box2 3 rfl
          have g1 := HX.ro q1 hbb
          have g2 := HX.ro q2 hbb
          have g3 := HX.ro q3 hbb
          have g4 := HX.ro q4 hbb
          refine hK.out _ _ (.inr (⟨⟨x0, x1⟩, g1, g2, g3, g4⟩)) ?_
          clear hK K
          repeat (first
            | (with_reducible refine po_take (v := ?_) ?_ (fun w' hS' => ?_) ?_
               rotate_left
               · (go_simp; done)
               · ((try dsimp only at hS'); go_simp; try with_reducible rfl)
               simp only [Act.put, List.setIfInBounds_toArray, List.set_cons_zero, List.set_cons_succ])
            | (with_reducible refine po_skip ?_ ?_
               · (go_simp; done)
               simp only [Act.put, List.setIfInBounds_toArray, List.set_cons_zero, List.set_cons_succ]))
          with_reducible refine po_run ?_ (fun K hK => ?_) ?_
          · (go_simp; done)
          rotate_left
          · exact po_stop
          obtain ⟨e0, e1, e2, e3⟩ := HX.box2 2 rfl
          go_simp
          have HZ := (HX.putBox 2 rfl 0 (.slice C' T.cells.length kC')).putBox 2 rfl 1 (.slice R' T.roots.length kR')
          have HY := HZ.places [2, 0, 1, 3, 6] (by decide) (by simp); simp only [List.filterMap_cons, List.filterMap_nil, List.getElem?_cons_zero, List.getElem?_cons_succ, List.set_cons_zero, List.set_cons_succ] at HY
          clear x0 x1 g1 g2 g3 g4 HX HZ HP9
          obtain ⟨x0, x1, -, -⟩ := HY.box2 3 rfl
          have g1 := HY.ro q1 hbb
          have g2 := HY.ro q2 hbb
          have g3 := HY.ro q3 hbb
          have g4 := HY.ro q4 hbb
          refine hK.out _ _ (.inr (⟨⟨x0, x1⟩, g1, g2, g3, g4⟩)) ?_
          clear hK K
          clear x0 x1 g1 g2 g3 g4
          repeat (first
            | (with_reducible refine po_take (v := ?_) ?_ (fun w' hS' => ?_) ?_
               rotate_left
               · (go_simp; done)
               · ((try dsimp only at hS'); go_simp; try with_reducible rfl)
               simp only [Act.put, List.setIfInBounds_toArray, List.set_cons_zero, List.set_cons_succ])
            | (with_reducible refine po_skip ?_ ?_
               · (go_simp; done)
               simp only [Act.put, List.setIfInBounds_toArray, List.set_cons_zero, List.set_cons_succ]))
          refine po_done ?_
          obtain ⟨x0, x1, x2, x3⟩ := HY.box2 3 rfl
          obtain ⟨n0, n1, -, -⟩ := HY.box2 0 rfl
          have H7 := (((HY.putBox 3 rfl 0 (.slice C' T.cells.length kC')).putBox 3 rfl 1 (.slice R' T.roots.length kR'))).places [3, 1, 2, 4] (by decide) (by simp)
          simp only [List.filterMap_cons, List.filterMap_nil, List.getElem?_cons_zero, List.getElem?_cons_succ, List.set_cons_zero, List.set_cons_succ] at H7
          clear HY H0 q1 q2 q3 q4
          go_wp2_with fail
          go_roundw
          case rel => exact ⟨k + 1, C', R', kC', kR', rvs', T, by go_num, by omega, HE, HTG, H7⟩
          case measure => simp [intOf]; omega
      obtain ⟨h1, hlen⟩ := hm
      have k3 : (p.op == 1) = true := by simp [h1]
      have k4 : (L : Int) ≤ (h.cells.length : Int) := by omega
      have HST := Go.Lib.hid (fun h3 => runCp_stop hx HR.out h1 hlen h3)
      have HMV := Go.Lib.hid (fun h3 => runCp_moved hx HR.out h1 hlen h3)
      have GX := Go.Lib.hid (good_iff.1 (copy_ok (good_iff.2 GG.out)))
      clear HR h1 hlen
      go_wp2_with fail
      refine (specCopyHeap_any _ _ _ h (H.rdH 1 2 rfl rfl) (good_iff.2 GG.out)).mono ?_
      rintro e w4 ⟨v1, rfl, ho, hb⟩
      obtain ⟨cv, rvs', rv, rfl, K⟩ := H.madeH ho hb
      obtain ⟨X, hX⟩ : ∃ X, X = mCopy h := ⟨_, rfl⟩
      rw [← hX] at K HST HMV GX
      clear ho hb hX H x0 x1 x2 x3 g1 g2 g3 g4
      obtain ⟨C, kC, rfl, -⟩ := K.formC 0 rfl
      obtain ⟨R, kR, rfl, -⟩ := K.formI 1 rfl
      obtain ⟨x0, x1, x2, x3⟩ := K.box2 2 rfl
      have H := ((K.putBox 2 rfl 0 (.slice C X.cells.length kC)).putBox 2 rfl 1 (.slice R X.roots.length kR)).places [2, 0, 1, 5] (by decide) (by simp)
      simp only [List.filterMap_cons, List.filterMap_nil, List.getElem?_cons_zero, List.getElem?_cons_succ, List.set_cons_zero, List.set_cons_succ] at H
      obtain ⟨v0, v1, -, -⟩ := H.box2 0 rfl
      have g1 := H.ro q1 hbb
      have g2 := H.ro q2 hbb
      have g3 := H.ro q3 hbb
      have g4 := H.ro q4 hbb
      clear K
      by_cases hs : L ≤ X.cells.length
      · have HE := Go.Lib.hid (HST.out hs)
        have k5 : (L : Int) ≤ (X.cells.length : Int) := by omega
        obtain ⟨y0, y1, y2, y3⟩ := H.box2 3 rfl
        have HZ := (H.putBox 3 rfl 0 (.slice C X.cells.length kC)).putBox 3 rfl 1 (.slice R X.roots.length kR)
        simp only [List.set_cons_zero, List.set_cons_succ, List.eraseIdx_cons_zero, List.eraseIdx_cons_succ, List.drop_succ_cons, List.drop_zero, List.take_succ_cons, List.take_zero, List.length_append, List.length_cons, List.length_nil, List.nil_append, Nat.zero_add, World.size_alloc] at HZ
        obtain ⟨z0, z1, -, -⟩ := HZ.box2 3 rfl
        obtain ⟨z2, -, -, -⟩ := (H.putBox 3 rfl 0 (.slice C X.cells.length kC)).box2 3 rfl
        have HS : Hid (MadeHBl w (mRunCpH mCopy cs (L : Int)) (mRunCpB mCopy cs (L : Int)) (.returned (.tuple #[.agg #[.slice C X.cells.length kC, .slice R X.roots.length kR], .bool false])) _) := Go.Lib.hid (by rw [HF1.out, HF2.out, HE.out]; exact ⟨_, rvs', _, rfl, HZ.order [1, 2] (by decide) rfl⟩)
        clear H HZ
        go_wp2
        exact bodyPost_ret (v := .tuple #[.agg #[.slice C X.cells.length kC, .slice R X.roots.length kR], .bool false]) (by simp [results, Try.results6, go_sem, z0, z1, z2]) rfl HS.out
      · have HE : Hid (runCp mCopy L (mStep X p) (cs.drop (k + 1)) = RR) := Go.Lib.hid (HMV.out hs)
        have k5 : ¬ (L : Int) ≤ (X.cells.length : Int) := by omega
        clear HST HMV hs v0 v1
        have GG' := GX
        have HTG : Hid (Good (mStep X p)) := Go.Lib.hid (mStep_good GG'.out HP.out)
        go_wp2_with fail
        have HX := H.drew
        have H0 := Go.Lib.hid H
        clear H x0 x1 x2 x3 g1 g2 g3 g4
        obtain ⟨x0, x1, -, -⟩ := HX.box2 0 rfl
        have g1 := HX.ro q1 hbb
        have g2 := HX.ro q2 hbb
        have g3 := HX.ro q3 hbb
        have g4 := HX.ro q4 hbb
        refine wp_region_tree (fun w' => (w'.cell? ⟨w3.heap.size, 0, none⟩ = some (.slice C X.cells.length kC) ∧ w'.cell? ⟨w3.heap.size, 1, none⟩ = some (.slice R X.roots.length kR)) ∧ w'.cell? ⟨b, o + k * 4, none⟩ = some (.int .i64 p.op) ∧ w'.cell? ⟨b, o + k * 4 + 1, none⟩ = some (.int .i64 p.a) ∧ w'.cell? ⟨b, o + k * 4 + 2, none⟩ = some (.int .i64 p.b) ∧ w'.cell? ⟨b, o + k * 4 + 3, none⟩ = some (.int .i64 p.c)) 12 [] (.take 0 (.take 1 (.take 2 (.take 3 (.take 4 (.alt 5 (.take 6 (.take 7 (.take 8 (.alt 9 (.alt 10 (.take 11 (.done)) (.stop)) (.stop))))) (.alt 9 (.alt 5 (.take 6 (.take 7 (.take 8 (.alt 10 (.take 11 (.done)) (.stop))))) (.stop)) (.stop)))))))) (by kernel_rfl) (by kernel_rfl) (by kernel_rfl) (⟨⟨x0, x1⟩, g1, g2, g3, g4⟩) ?_
        simp only [fillT, List.getElem?_cons_zero, List.getElem?_cons_succ, Nat.reduceBEq]
        repeat (first
          | (with_reducible refine po_take (v := ?_) ?_ (fun w' hS' => ?_) ?_
             rotate_left
             · (go_simp; done)
             · ((try dsimp only at hS'); go_simp; try with_reducible rfl)
             simp only [Act.put, List.setIfInBounds_toArray, List.set_cons_zero, List.set_cons_succ])
          | (with_reducible refine po_skip ?_ ?_
             · (go_simp; done)
             simp only [Act.put, List.setIfInBounds_toArray, List.set_cons_zero, List.set_cons_succ]))
        with_reducible refine po_run ?_ (fun K hK => ?_) ?_
        · (go_simp; done)
        · -- operation 5 first
          go_simp
          refine (stepHeap_any _ _ _ X (HX.rdH 1 2 rfl rfl) p GG'.out HP.out).mono ?_
          rintro e wa ⟨cv, rvs', rv, rfl, K⟩
          replace K := HX.merge K
          simp only [List.cons_append, List.nil_append] at K
          obtain ⟨T, hT⟩ : ∃ T, T = mStep X p := ⟨_, rfl⟩
          rw [← hT] at K HE HTG
          clear hT HX
          have HX := K
          clear K
          obtain ⟨C', kC', rfl, -⟩ := HX.formC 0 rfl
          obtain ⟨R', kR', rfl, -⟩ := HX.formI 1 rfl
          clear x0 x1 g1 g2 g3 g4
          obtain ⟨x0, x1, -, -⟩ := HX.box2 2 rfl
          have g1 := HX.ro q1 hbb
          have g2 := HX.ro q2 hbb
          have g3 := HX.ro q3 hbb
          have g4 := HX.ro q4 hbb
          refine hK.out _ _ (.inr (⟨⟨x0, x1⟩, g1, g2, g3, g4⟩)) ?_
          clear hK K
          repeat (first
            | (with_reducible refine po_take (v := ?_) ?_ (fun w' hS' => ?_) ?_
               rotate_left
               · (go_simp; done)
               · ((try dsimp only at hS'); go_simp; try with_reducible rfl)
               simp only [Act.put, List.setIfInBounds_toArray, List.set_cons_zero, List.set_cons_succ])
            | (with_reducible refine po_skip ?_ ?_
               · (go_simp; done)
               simp only [Act.put, List.setIfInBounds_toArray, List.set_cons_zero, List.set_cons_succ]))
          with_reducible refine po_run ?_ (fun K hK => ?_) ?_
          · (go_simp; done)
          rotate_left
          · exact po_stop
          go_simp
          have HP9 := HX
          replace HX := HX.box [.slice none 0 0, .slice none 0 0] 29
          try simp only [drew_size, World.size_setCell] at HX
          clear x0 x1 g1 g2 g3 g4
          obtain ⟨x0, x1, -, -⟩ := HX.box2 (1 + 2 * 1) rfl
          have g1 := HX.ro q1 hbb
          have g2 := HX.ro q2 hbb
          have g3 := HX.ro q3 hbb
          have g4 := HX.ro q4 hbb
          refine hK.out _ _ (.inr (⟨⟨x0, x1⟩, g1, g2, g3, g4⟩)) ?_
          clear hK K
          with_reducible refine po_run ?_ (fun K hK => ?_) ?_
          · (go_simp; done)
          rotate_left
          · exact po_stop
          go_simp
          have HZ := HP9.box [.slice C' T.cells.length kC', .slice R' T.roots.length kR'] 29
          have HY := HZ.places [0, 1, 2, 3, 6] (by decide) (by simp); simp only [List.filterMap_cons, List.filterMap_nil, List.getElem?_cons_zero, List.getElem?_cons_succ] at HY
          clear x0 x1 g1 g2 g3 g4 HX HZ HP9
          obtain ⟨x0, x1, -, -⟩ := HY.box2 3 rfl
          have g1 := HY.ro q1 hbb
          have g2 := HY.ro q2 hbb
          have g3 := HY.ro q3 hbb
          have g4 := HY.ro q4 hbb
          refine hK.out _ _ (.inr (⟨⟨x0, x1⟩, g1, g2, g3, g4⟩)) ?_
          clear hK K
          clear x0 x1 g1 g2 g3 g4
          repeat (first
            | (with_reducible refine po_take (v := ?_) ?_ (fun w' hS' => ?_) ?_
               rotate_left
               · (go_simp; done)
               · ((try dsimp only at hS'); go_simp; try with_reducible rfl)
               simp only [Act.put, List.setIfInBounds_toArray, List.set_cons_zero, List.set_cons_succ])
            | (with_reducible refine po_skip ?_ ?_
               · (go_simp; done)
               simp only [Act.put, List.setIfInBounds_toArray, List.set_cons_zero, List.set_cons_succ]))
          refine po_done ?_
          obtain ⟨x0, x1, x2, x3⟩ := HY.box2 3 rfl
          obtain ⟨n0, n1, -, -⟩ := HY.box2 0 rfl
          have H7 := (((HY.putBox 3 rfl 0 (.slice C' T.cells.length kC')).putBox 3 rfl 1 (.slice R' T.roots.length kR'))).places [3, 1, 2, 4] (by decide) (by simp)
          simp only [List.filterMap_cons, List.filterMap_nil, List.getElem?_cons_zero, List.getElem?_cons_succ, List.set_cons_zero, List.set_cons_succ] at H7
          clear HY H0 q1 q2 q3 q4
          go_wp2_with fail
          go_roundw
          case rel => exact ⟨k + 1, C', R', kC', kR', rvs', T, by go_num, by omega, HE, HTG, H7⟩
          case measure => simp [intOf]; omega
        with_reducible refine po_run ?_ (fun K hK => ?_) ?_
        · (go_simp; done)
        rotate_left
        · exact po_stop
        go_simp
        have HP9 := HX
        replace HX := HX.box [.slice none 0 0, .slice none 0 0] 29
        try simp only [drew_size, World.size_setCell] at HX
        clear x0 x1 g1 g2 g3 g4
        obtain ⟨x0, x1, -, -⟩ := HX.box2 (1 + 2 * 0) rfl
        have g1 := HX.ro q1 hbb
        have g2 := HX.ro q2 hbb
        have g3 := HX.ro q3 hbb
        have g4 := HX.ro q4 hbb
        refine hK.out _ _ (.inr (⟨⟨x0, x1⟩, g1, g2, g3, g4⟩)) ?_
        clear hK K
        with_reducible refine po_run ?_ (fun K hK => ?_) ?_
        · (go_simp; done)
        rotate_left
        · exact po_stop
        go_simp
        refine (stepHeap_any _ _ _ X (HX.rdH 2 3 rfl rfl) p GG'.out HP.out).mono ?_
        rintro e wa ⟨cv, rvs', rv, rfl, K⟩
        replace K := HX.merge K
        simp only [List.cons_append, List.nil_append] at K
        obtain ⟨T, hT⟩ : ∃ T, T = mStep X p := ⟨_, rfl⟩
        rw [← hT] at K HE HTG
        clear hT HX
        have HX := K
        clear K
        obtain ⟨C', kC', rfl, -⟩ := HX.formC 0 rfl
        obtain ⟨R', kR', rfl, -⟩ := HX.formI 1 rfl
        clear x0 x1 g1 g2 g3 g4
        obtain ⟨x0, x1, -, -⟩ := HX.box2 3 rfl
        have g1 := HX.ro q1 hbb
        have g2 := HX.ro q2 hbb
        have g3 := HX.ro q3 hbb
        have g4 := HX.ro q4 hbb
        refine hK.out _ _ (.inr (⟨⟨x0, x1⟩, g1, g2, g3, g4⟩)) ?_
        clear hK K
        repeat (first
          | (with_reducible refine po_take (v := ?_) ?_ (fun w' hS' => ?_) ?_
             rotate_left
             · (go_simp; done)
             · ((try dsimp only at hS'); go_simp; try with_reducible rfl)
             simp only [Act.put, List.setIfInBounds_toArray, List.set_cons_zero, List.set_cons_succ])
          | (with_reducible refine po_skip ?_ ?_
             · (go_simp; done)
             simp only [Act.put, List.setIfInBounds_toArray, List.set_cons_zero, List.set_cons_succ]))
        with_reducible refine po_run ?_ (fun K hK => ?_) ?_
        · (go_simp; done)
        rotate_left
        · exact po_stop
        obtain ⟨e0, e1, e2, e3⟩ := HX.box2 2 rfl
        go_simp
        have HZ := (HX.putBox 2 rfl 0 (.slice C' T.cells.length kC')).putBox 2 rfl 1 (.slice R' T.roots.length kR')
        have HY := HZ.places [2, 0, 1, 3, 6] (by decide) (by simp); simp only [List.filterMap_cons, List.filterMap_nil, List.getElem?_cons_zero, List.getElem?_cons_succ, List.set_cons_zero, List.set_cons_succ] at HY
        clear x0 x1 g1 g2 g3 g4 HX HZ HP9
        obtain ⟨x0, x1, -, -⟩ := HY.box2 3 rfl
        have g1 := HY.ro q1 hbb
        have g2 := HY.ro q2 hbb
        have g3 := HY.ro q3 hbb
        have g4 := HY.ro q4 hbb
        refine hK.out _ _ (.inr (⟨⟨x0, x1⟩, g1, g2, g3, g4⟩)) ?_
        clear hK K
        clear x0 x1 g1 g2 g3 g4
        repeat (first
          | (with_reducible refine po_take (v := ?_) ?_ (fun w' hS' => ?_) ?_
             rotate_left
             · (go_simp; done)
             · ((try dsimp only at hS'); go_simp; try with_reducible rfl)
             simp only [Act.put, List.setIfInBounds_toArray, List.set_cons_zero, List.set_cons_succ])
          | (with_reducible refine po_skip ?_ ?_
             · (go_simp; done)
             simp only [Act.put, List.setIfInBounds_toArray, List.set_cons_zero, List.set_cons_succ]))
        refine po_done ?_
        obtain ⟨x0, x1, x2, x3⟩ := HY.box2 3 rfl
        obtain ⟨n0, n1, -, -⟩ := HY.box2 0 rfl
        have H7 := (((HY.putBox 3 rfl 0 (.slice C' T.cells.length kC')).putBox 3 rfl 1 (.slice R' T.roots.length kR'))).places [3, 1, 2, 4] (by decide) (by simp)
        simp only [List.filterMap_cons, List.filterMap_nil, List.getElem?_cons_zero, List.getElem?_cons_succ, List.set_cons_zero, List.set_cons_succ] at H7
        clear HY H0 q1 q2 q3 q4
        go_wp2_with fail
        go_roundw
        case rel => exact ⟨k + 1, C', R', kC', kR', rvs', T, by go_num, by omega, HE, HTG, H7⟩
        case measure => simp [intOf]; omega
    · have HE := Go.Lib.hid (runCp_out (by omega) HR.out)
      obtain ⟨y0, y1, y2, y3⟩ := H.box2 3 rfl
      have HZ := (H.putBox 3 rfl 0 (.slice C h.cells.length kC)).putBox 3 rfl 1 (.slice R h.roots.length kR)
      simp only [List.set_cons_zero, List.set_cons_succ, List.eraseIdx_cons_zero, List.eraseIdx_cons_succ, List.drop_succ_cons, List.drop_zero, List.take_succ_cons, List.take_zero, List.length_append, List.length_cons, List.length_nil, List.nil_append, Nat.zero_add, World.size_alloc] at HZ
      obtain ⟨z0, z1, -, -⟩ := HZ.box2 3 rfl
      obtain ⟨z2, -, -, -⟩ := (H.putBox 3 rfl 0 (.slice C h.cells.length kC)).box2 3 rfl
      have HS : Hid (MadeHBl w (mRunCpH mCopy cs (L : Int)) (mRunCpB mCopy cs (L : Int)) (.returned (.tuple #[.agg #[.slice C h.cells.length kC, .slice R h.roots.length kR], .bool true])) _) := Go.Lib.hid (by rw [HF1.out, HF2.out, HE.out]; exact ⟨_, rvs, _, rfl, HZ.order [1, 2] (by decide) rfl⟩)
      clear H HZ
      go_wp2
      exact bodyPost_ret (v := .tuple #[.agg #[.slice C h.cells.length kC, .slice R h.roots.length kR], .bool true]) (by simp [results, Try.results6, go_sem, z0, z1, z2]) rfl HS.out
end Go.Proofs.Ytdkpfggfkhnjfaa
