/- The law FnRunSweep's walk: if the program comes to its end with a limit, it shows the same as without freeing, and does so with every greater limit. For every code that can be read. Printed by genlp.py. -/
import Derived.Test.YtpafdaooddbpkaaS6
import Derived.Test.YtpafdaooddbpkaaS5
import Derived.Test.YtpafdaooddbpkaaP4
import Derived.Test.YtpafdaooddbpkaaJo
import Derived.Test.YtpafdaooddbpkaaAl
import Derived.Test.YtpafdaooddbpkaaSm
import Derived.Test.YtpafdaooddbpkaaVi
namespace Go.Proofs.Ytpafdaooddbpkaa
open Go.RowKit
set_option maxHeartbeats 6400000 in
set_option maxRecDepth 20000 in
theorem lawRunSweep_any (w : World) {A : Option Addr} {n c : Nat} {bs : List Int} (hr : RdY w w.heap.size A n c bs) :
    Calls Try.prog 5 #[.slice A n c] w fun e w' => e = .returned (.bool true) ∧ Below w.heap.size w w' := by
  by_cases s0 : 1048576 < n
  · go_enter Try.func5, Try.ntmps5
    go_wp2
    go_ret
    exact ⟨rfl, Below.refl _ _⟩
  go_enter Try.func5, Try.ntmps5
  go_wp2_with fail
  refine (DrawRunSweep_any w A n c bs hr).mono ?_
  rintro e w1 ⟨v, cs, x, rfl, hl, hx0, hx1, H⟩
  obtain ⟨A1, c1, rfl, h1⟩ := H.formQ 0 rfl
  clear hr s0
  go_wp2_with fail
  refine (implRunSweep_any _ _ _ _ _ cs h1 x).mono ?_
  rintro e w2 ⟨cv, rvs, rv, rfl, K⟩
  obtain ⟨X, hX⟩ : ∃ X, X = mRunSwH cs x := ⟨_, rfl⟩
  obtain ⟨tb, htb⟩ : ∃ b, b = mRunSwB cs x := ⟨_, rfl⟩
  rw [← hX] at K
  rw [← htb]
  have HX := Go.Lib.hid hX
  have HT := Go.Lib.hid htb
  replace H := H.merge K
  simp only [List.cons_append, List.nil_append] at H
  clear K h1 hX htb
  obtain ⟨C, kC, rfl, -⟩ := H.formC 0 rfl
  obtain ⟨R, kR, rfl, -⟩ := H.formI 1 rfl
  replace H := H.box [.slice C X.cells.length kC, .slice R X.roots.length kR] 32
  obtain ⟨A2, c2, e1, h1⟩ := H.formQ 3 rfl
  simp only [Value.slice.injEq, true_and] at e1
  obtain ⟨rfl, rfl⟩ := e1
  go_wp2_with fail
  refine (specRunSweep_any _ _ _ _ _ cs h1 x).mono ?_
  rintro e w3 ⟨cv, rvs2, rv, rfl, K⟩
  rw [← HX.out] at K
  rw [← HT.out]
  replace H := H.merge K
  simp only [List.cons_append, List.nil_append] at H
  clear K h1
  obtain ⟨C2, kC2, rfl, -⟩ := H.formC 0 rfl
  obtain ⟨R2, kR2, rfl, -⟩ := H.formI 1 rfl
  replace H := H.box [.slice C2 X.cells.length kC2, .slice R2 X.roots.length kR2] 32
  obtain ⟨x0, x1, -, -⟩ := H.box2 0 rfl
  obtain ⟨y0, y1, -, -⟩ := H.box2 3 rfl
  go_wp2_with fail
  refine (sameHeap_yes _ _ _ _ _ X (H.rdH 4 5 rfl rfl) (H.rdH 1 2 rfl rfl)).mono ?_
  rintro e w4 ⟨rfl, hb⟩
  replace H := (H.call hb).order [3, 4, 5, 6] (L' := [.box w2.heap.size [.slice C X.cells.length kC, .slice R X.roots.length kR] 32, .cells (.slice C X.cells.length kC) rvs X.cells, .ints (.slice R X.roots.length kR) X.roots, .cmds (.slice A1 cs.length c1) cs]) (by decide) rfl
  clear hb x0 x1 y0 y1
  obtain ⟨A2, c2, e1, h1⟩ := H.formQ 3 rfl
  simp only [Value.slice.injEq, true_and] at e1
  obtain ⟨rfl, rfl⟩ := e1
  go_wp2_with fail
  refine (specCommandsValid_any _ _ _ _ _ cs h1).mono ?_
  rintro e w5 ⟨rfl, hb⟩
  replace H := H.call hb
  clear hb h1
  cases hc : cmdsOk cs
  · have HF : tb = false := by rw [HT.out]; exact swB_no1 hc
    subst HF
    clear hc
    go_wp2_with fail
    refine (alive_any _).mono ?_
    rintro e wz ⟨rfl, hb⟩
    have HB := (H.call hb).below
    clear H hb
    go_wp2
    go_ret
    exact ⟨rfl, HB⟩
  by_cases hlo : x < 1
  · have HF : tb = false := by rw [HT.out]; exact swB_no2 (by simp [inR]; omega)
    subst HF
    clear hc
    go_wp2_with fail
    refine (alive_any _).mono ?_
    rintro e wz ⟨rfl, hb⟩
    have HB := (H.call hb).below
    clear H hb
    go_wp2
    go_ret
    exact ⟨rfl, HB⟩
  by_cases hhi : 40 < x
  · have HF : tb = false := by rw [HT.out]; exact swB_no2 (by simp [inR]; omega)
    subst HF
    clear hc
    go_wp2_with fail
    refine (alive_any _).mono ?_
    rintro e wz ⟨rfl, hb⟩
    have HB := (H.call hb).below
    clear H hb
    go_wp2
    go_ret
    exact ⟨rfl, HB⟩
  obtain ⟨L, rfl⟩ := Int.eq_ofNat_of_zero_le hx0
  have hL1 : 1 ≤ L := by omega
  have hL2 : L ≤ 40 := by omega
  obtain ⟨f1, f2, f3, f4, f5⟩ := sw_facts hc hL1 hL2
  rw [← HX.out] at f1 f2 f3
  rw [← HT.out] at f3 f4 f5
  obtain ⟨M, hM⟩ : ∃ M, M = min 40 (L + 1) := ⟨_, rfl⟩
  have HMore := Go.Lib.hid (fun (h : tb = true) => f4 h M (by omega) (by omega))
  have HV := Go.Lib.hid f3
  have HOK := Go.Lib.hid f1
  have HP := Go.Lib.hid f5
  have HC := Go.Lib.hid hc
  have HPk := Go.Lib.hid (mPeak_yes hc)
  have s9 : (X.cells.length : Int) ≤ (L : Int) := by omega
  obtain ⟨A2, c2, e1, h1⟩ := H.formQ 3 rfl
  simp only [Value.slice.injEq, true_and] at e1
  obtain ⟨rfl, rfl⟩ := e1
  clear f1 f2 f3 f4 f5 hc
  by_cases h40 : L + 1 < 40
  · have s2 : (L : Int) + 1 < 40 := by omega
    have s3 : ¬ (40 : Int) ≤ (L : Int) + 1 := by omega
    have HL : Hid ((L : Int) + 1 = (M : Int)) := Go.Lib.hid (by omega)
    clear hM h40
    go_wp2_with fail
    (try rw [if_pos (by omega)])
    (try rw [if_neg (by omega)])
    rw [HL.out]
    refine (implRunSweep_any _ _ _ _ _ cs h1 (M : Int)).mono ?_
    rintro e w6 ⟨cv, rvs3, rv, rfl, K⟩
    obtain ⟨Y, hY⟩ : ∃ Y, Y = mRunSwH cs (M : Int) := ⟨_, rfl⟩
    obtain ⟨tm, htm⟩ : ∃ b, b = mRunSwB cs (M : Int) := ⟨_, rfl⟩
    rw [← hY] at K
    rw [← htm] at HMore ⊢
    replace H := H.merge K
    simp only [List.cons_append, List.nil_append] at H
    clear K h1 hY htm
    obtain ⟨C3, kC3, rfl, -⟩ := H.formC 0 rfl
    obtain ⟨R3, kR3, rfl, -⟩ := H.formI 1 rfl
    replace H := (H.box [.slice C3 Y.cells.length kC3, .slice R3 Y.roots.length kR3] 32)
    have HX2 := H.drew
    obtain ⟨x0, x1, -, -⟩ := HX2.box2 3 rfl
    go_wp2_with fail
    clear H
    have HX := HX2
    clear HX2
    cases tb
    · have hp := HP.out rfl
      obtain ⟨P, hP⟩ : ∃ P, P = peakTo cs cs.length := ⟨_, rfl⟩
      rw [← hP] at hp HPk
      have s7 : (L : Int) ≤ (P : Int) := by omega
      have hU : undef = Value.tuple #[] := rfl
      clear hP hp
      refine wp_region_tree (fun w' => w'.cell? ⟨w2.heap.size, 0, none⟩ = some (.slice C X.cells.length kC) ∧ w'.cell? ⟨w2.heap.size, 1, none⟩ = some (.slice R X.roots.length kR)) 28 [] (.take 0 (.take 1 (.take 2 (.take 3 (.take 4 (.take 5 (.take 6 (.take 7 (.take 8 (.take 9 (.take 10 (.alt 11 (.alt 12 (.take 13 (.take 14 (.take 15 (.take 16 (.take 17 (.take 18 (.take 19 (.take 20 (.take 21 (.take 22 (.alt 23 (.take 24 (.take 25 (.take 26 (.take 27 (.done))))) (.stop)))))))))))) (.stop)) (.stop))))))))))))) (by kernel_rfl) (by kernel_rfl) (by kernel_rfl) (⟨x0, x1⟩) ?_
      simp only [fillT, List.getElem?_cons_zero, List.getElem?_cons_succ, Nat.reduceBEq]
      repeat (first
        | (with_reducible refine po_take (v := ?_) ?_ (fun w' hS' => ?_) ?_
           rotate_left
           · (go_simp; done)
           · ((try dsimp only at hS'); go_simp; try with_reducible rfl)
           simp only [Act.put, List.setIfInBounds_toArray, List.set_cons_zero, List.set_cons_succ])
        | (with_reducible refine po_skip ?_ ?_
           · (go_simp; done)
           simp only [Act.put, List.setIfInBounds_toArray, List.set_cons_zero, List.set_cons_succ]))
      with_reducible refine po_no ?_ ?_ ?_ ?_
      · (go_simp; done)
      · exact .inr (⟨x0, x1⟩)
      rotate_left
      · exact po_stop
      simp only [Act.put, List.setIfInBounds_toArray, List.set_cons_zero, List.set_cons_succ]
      with_reducible refine po_no ?_ ?_ ?_ ?_
      · (go_simp; done)
      · exact .inr (⟨x0, x1⟩)
      rotate_left
      · exact po_stop
      simp only [Act.put, List.setIfInBounds_toArray, List.set_cons_zero, List.set_cons_succ]
      repeat (first
        | (with_reducible refine po_take (v := ?_) ?_ (fun w' hS' => ?_) ?_
           rotate_left
           · (go_simp; done)
           · ((try dsimp only at hS'); go_simp; try with_reducible rfl)
           simp only [Act.put, List.setIfInBounds_toArray, List.set_cons_zero, List.set_cons_succ])
        | (with_reducible refine po_skip ?_ ?_
           · (go_simp; done)
           simp only [Act.put, List.setIfInBounds_toArray, List.set_cons_zero, List.set_cons_succ]))
      with_reducible refine po_run ?_ (fun K hK => ?_) ?_
      · (go_simp; done)
      rotate_left
      · exact po_stop
      go_simp
      obtain ⟨A2, c2, e1, h1⟩ := HX.formQ 6 rfl
      simp only [Value.slice.injEq, true_and] at e1
      obtain ⟨rfl, rfl⟩ := e1
      refine (implPeakLive_any _ _ _ _ _ cs h1).mono ?_
      rintro e w7 ⟨rfl, hb⟩
      rw [HPk.out]
      replace HX := HX.call hb
      clear hb h1 x0 x1
      obtain ⟨x0, x1, -, -⟩ := HX.box2 3 rfl
      refine hK.out _ _ (.inr (⟨x0, x1⟩)) ?_
      clear hK K
      repeat (first
        | (with_reducible refine po_take (v := ?_) ?_ (fun w' hS' => ?_) ?_
           rotate_left
           · (go_simp; done)
           · ((try dsimp only at hS'); go_simp; try with_reducible rfl)
           simp only [Act.put, List.setIfInBounds_toArray, List.set_cons_zero, List.set_cons_succ])
        | (with_reducible refine po_skip ?_ ?_
           · (go_simp; done)
           simp only [Act.put, List.setIfInBounds_toArray, List.set_cons_zero, List.set_cons_succ]))
      refine po_done ?_
      have HB := HX.below
      clear HX x0 x1
      go_wp2
      go_ret
      exact ⟨rfl, HB⟩
    · have hm := HMore.out rfl
      subst hm
      have HVV := Go.Lib.hid (HV.out rfl)
      refine wp_region_tree (fun w' => w'.cell? ⟨w2.heap.size, 0, none⟩ = some (.slice C X.cells.length kC) ∧ w'.cell? ⟨w2.heap.size, 1, none⟩ = some (.slice R X.roots.length kR)) 28 [] (.take 0 (.take 1 (.take 2 (.take 3 (.take 4 (.take 5 (.take 6 (.take 7 (.take 8 (.take 9 (.take 10 (.alt 11 (.alt 12 (.take 13 (.take 14 (.take 15 (.take 16 (.take 17 (.take 18 (.take 19 (.take 20 (.take 21 (.take 22 (.alt 23 (.take 24 (.take 25 (.take 26 (.take 27 (.done))))) (.stop)))))))))))) (.stop)) (.stop))))))))))))) (by kernel_rfl) (by kernel_rfl) (by kernel_rfl) (⟨x0, x1⟩) ?_
      simp only [fillT, List.getElem?_cons_zero, List.getElem?_cons_succ, Nat.reduceBEq]
      repeat (first
        | (with_reducible refine po_take (v := ?_) ?_ (fun w' hS' => ?_) ?_
           rotate_left
           · (go_simp; done)
           · ((try dsimp only at hS'); go_simp; try with_reducible rfl)
           simp only [Act.put, List.setIfInBounds_toArray, List.set_cons_zero, List.set_cons_succ])
        | (with_reducible refine po_skip ?_ ?_
           · (go_simp; done)
           simp only [Act.put, List.setIfInBounds_toArray, List.set_cons_zero, List.set_cons_succ]))
      with_reducible refine po_run ?_ (fun K hK => ?_) ?_
      · (go_simp; done)
      rotate_left
      · exact po_stop
      go_simp
      obtain ⟨A2, c2, e1, h1⟩ := HX.formQ 6 rfl
      simp only [Value.slice.injEq, true_and] at e1
      obtain ⟨rfl, rfl⟩ := e1
      refine (implRunHeap_any _ _ _ _ _ cs h1).mono ?_
      rintro e w7 ⟨cv, rvs4, rv, rfl, K⟩
      replace HX := HX.merge K
      simp only [List.cons_append, List.nil_append] at HX
      obtain ⟨Z, hZ⟩ : ∃ Z, Z = mRun cs := ⟨_, rfl⟩
      have HZK := Go.Lib.hid (run_ok HC.out)
      rw [← hZ] at HX HZK HVV
      clear K h1 x0 x1 hZ
      obtain ⟨C4, kC4, rfl, -⟩ := HX.formC 0 rfl
      obtain ⟨R4, kR4, rfl, -⟩ := HX.formI 1 rfl
      obtain ⟨x0, x1, -, -⟩ := HX.box2 5 rfl
      refine hK.out _ _ (.inr (⟨x0, x1⟩)) ?_
      clear hK K
      with_reducible refine po_run ?_ (fun K hK => ?_) ?_
      · (go_simp; done)
      rotate_left
      · exact po_stop
      go_simp
      refine (sameView_yes _ _ _ _ _ X Z (HX.rdH 6 7 rfl rfl) (HX.rdH 0 1 rfl rfl) HOK.out HZK.out HVV.out).mono ?_
      rintro e w8 ⟨rfl, hb⟩
      replace HX := HX.call hb
      clear hb x0 x1
      obtain ⟨x0, x1, -, -⟩ := HX.box2 5 rfl
      refine hK.out _ _ (.inr (⟨x0, x1⟩)) ?_
      clear hK K
      repeat (first
        | (with_reducible refine po_take (v := ?_) ?_ (fun w' hS' => ?_) ?_
           rotate_left
           · (go_simp; done)
           · ((try dsimp only at hS'); go_simp; try with_reducible rfl)
           simp only [Act.put, List.setIfInBounds_toArray, List.set_cons_zero, List.set_cons_succ])
        | (with_reducible refine po_skip ?_ ?_
           · (go_simp; done)
           simp only [Act.put, List.setIfInBounds_toArray, List.set_cons_zero, List.set_cons_succ]))
      with_reducible refine po_no ?_ ?_ ?_ ?_
      · (go_simp; done)
      · exact .inr (⟨x0, x1⟩)
      rotate_left
      · exact po_stop
      simp only [Act.put, List.setIfInBounds_toArray, List.set_cons_zero, List.set_cons_succ]
      repeat (first
        | (with_reducible refine po_take (v := ?_) ?_ (fun w' hS' => ?_) ?_
           rotate_left
           · (go_simp; done)
           · ((try dsimp only at hS'); go_simp; try with_reducible rfl)
           simp only [Act.put, List.setIfInBounds_toArray, List.set_cons_zero, List.set_cons_succ])
        | (with_reducible refine po_skip ?_ ?_
           · (go_simp; done)
           simp only [Act.put, List.setIfInBounds_toArray, List.set_cons_zero, List.set_cons_succ]))
      refine po_done ?_
      have HB := HX.below
      clear HX x0 x1
      go_wp2
      go_ret
      exact ⟨rfl, HB⟩
  · have s2 : ¬ (L : Int) + 1 < 40 := by omega
    have s3 : (40 : Int) ≤ (L : Int) + 1 := by omega
    have HL : Hid ((40 : Int) = (M : Int)) := Go.Lib.hid (by omega)
    clear hM h40
    go_wp2_with fail
    (try rw [if_pos (by omega)])
    (try rw [if_neg (by omega)])
    rw [HL.out]
    refine (implRunSweep_any _ _ _ _ _ cs h1 (M : Int)).mono ?_
    rintro e w6 ⟨cv, rvs3, rv, rfl, K⟩
    obtain ⟨Y, hY⟩ : ∃ Y, Y = mRunSwH cs (M : Int) := ⟨_, rfl⟩
    obtain ⟨tm, htm⟩ : ∃ b, b = mRunSwB cs (M : Int) := ⟨_, rfl⟩
    rw [← hY] at K
    rw [← htm] at HMore ⊢
    replace H := H.merge K
    simp only [List.cons_append, List.nil_append] at H
    clear K h1 hY htm
    obtain ⟨C3, kC3, rfl, -⟩ := H.formC 0 rfl
    obtain ⟨R3, kR3, rfl, -⟩ := H.formI 1 rfl
    replace H := (H.box [.slice C3 Y.cells.length kC3, .slice R3 Y.roots.length kR3] 32)
    have HX2 := H.drew
    obtain ⟨x0, x1, -, -⟩ := HX2.box2 3 rfl
    go_wp2_with fail
    clear H
    have HX := HX2
    clear HX2
    cases tb
    · have hp := HP.out rfl
      obtain ⟨P, hP⟩ : ∃ P, P = peakTo cs cs.length := ⟨_, rfl⟩
      rw [← hP] at hp HPk
      have s7 : (L : Int) ≤ (P : Int) := by omega
      have hU : undef = Value.tuple #[] := rfl
      clear hP hp
      refine wp_region_tree (fun w' => w'.cell? ⟨w2.heap.size, 0, none⟩ = some (.slice C X.cells.length kC) ∧ w'.cell? ⟨w2.heap.size, 1, none⟩ = some (.slice R X.roots.length kR)) 28 [] (.take 0 (.take 1 (.take 2 (.take 3 (.take 4 (.take 5 (.take 6 (.take 7 (.take 8 (.take 9 (.take 10 (.alt 11 (.alt 12 (.take 13 (.take 14 (.take 15 (.take 16 (.take 17 (.take 18 (.take 19 (.take 20 (.take 21 (.take 22 (.alt 23 (.take 24 (.take 25 (.take 26 (.take 27 (.done))))) (.stop)))))))))))) (.stop)) (.stop))))))))))))) (by kernel_rfl) (by kernel_rfl) (by kernel_rfl) (⟨x0, x1⟩) ?_
      simp only [fillT, List.getElem?_cons_zero, List.getElem?_cons_succ, Nat.reduceBEq]
      repeat (first
        | (with_reducible refine po_take (v := ?_) ?_ (fun w' hS' => ?_) ?_
           rotate_left
           · (go_simp; done)
           · ((try dsimp only at hS'); go_simp; try with_reducible rfl)
           simp only [Act.put, List.setIfInBounds_toArray, List.set_cons_zero, List.set_cons_succ])
        | (with_reducible refine po_skip ?_ ?_
           · (go_simp; done)
           simp only [Act.put, List.setIfInBounds_toArray, List.set_cons_zero, List.set_cons_succ]))
      with_reducible refine po_no ?_ ?_ ?_ ?_
      · (go_simp; done)
      · exact .inr (⟨x0, x1⟩)
      rotate_left
      · exact po_stop
      simp only [Act.put, List.setIfInBounds_toArray, List.set_cons_zero, List.set_cons_succ]
      with_reducible refine po_no ?_ ?_ ?_ ?_
      · (go_simp; done)
      · exact .inr (⟨x0, x1⟩)
      rotate_left
      · exact po_stop
      simp only [Act.put, List.setIfInBounds_toArray, List.set_cons_zero, List.set_cons_succ]
      repeat (first
        | (with_reducible refine po_take (v := ?_) ?_ (fun w' hS' => ?_) ?_
           rotate_left
           · (go_simp; done)
           · ((try dsimp only at hS'); go_simp; try with_reducible rfl)
           simp only [Act.put, List.setIfInBounds_toArray, List.set_cons_zero, List.set_cons_succ])
        | (with_reducible refine po_skip ?_ ?_
           · (go_simp; done)
           simp only [Act.put, List.setIfInBounds_toArray, List.set_cons_zero, List.set_cons_succ]))
      with_reducible refine po_run ?_ (fun K hK => ?_) ?_
      · (go_simp; done)
      rotate_left
      · exact po_stop
      go_simp
      obtain ⟨A2, c2, e1, h1⟩ := HX.formQ 6 rfl
      simp only [Value.slice.injEq, true_and] at e1
      obtain ⟨rfl, rfl⟩ := e1
      refine (implPeakLive_any _ _ _ _ _ cs h1).mono ?_
      rintro e w7 ⟨rfl, hb⟩
      rw [HPk.out]
      replace HX := HX.call hb
      clear hb h1 x0 x1
      obtain ⟨x0, x1, -, -⟩ := HX.box2 3 rfl
      refine hK.out _ _ (.inr (⟨x0, x1⟩)) ?_
      clear hK K
      repeat (first
        | (with_reducible refine po_take (v := ?_) ?_ (fun w' hS' => ?_) ?_
           rotate_left
           · (go_simp; done)
           · ((try dsimp only at hS'); go_simp; try with_reducible rfl)
           simp only [Act.put, List.setIfInBounds_toArray, List.set_cons_zero, List.set_cons_succ])
        | (with_reducible refine po_skip ?_ ?_
           · (go_simp; done)
           simp only [Act.put, List.setIfInBounds_toArray, List.set_cons_zero, List.set_cons_succ]))
      refine po_done ?_
      have HB := HX.below
      clear HX x0 x1
      go_wp2
      go_ret
      exact ⟨rfl, HB⟩
    · have hm := HMore.out rfl
      subst hm
      have HVV := Go.Lib.hid (HV.out rfl)
      refine wp_region_tree (fun w' => w'.cell? ⟨w2.heap.size, 0, none⟩ = some (.slice C X.cells.length kC) ∧ w'.cell? ⟨w2.heap.size, 1, none⟩ = some (.slice R X.roots.length kR)) 28 [] (.take 0 (.take 1 (.take 2 (.take 3 (.take 4 (.take 5 (.take 6 (.take 7 (.take 8 (.take 9 (.take 10 (.alt 11 (.alt 12 (.take 13 (.take 14 (.take 15 (.take 16 (.take 17 (.take 18 (.take 19 (.take 20 (.take 21 (.take 22 (.alt 23 (.take 24 (.take 25 (.take 26 (.take 27 (.done))))) (.stop)))))))))))) (.stop)) (.stop))))))))))))) (by kernel_rfl) (by kernel_rfl) (by kernel_rfl) (⟨x0, x1⟩) ?_
      simp only [fillT, List.getElem?_cons_zero, List.getElem?_cons_succ, Nat.reduceBEq]
      repeat (first
        | (with_reducible refine po_take (v := ?_) ?_ (fun w' hS' => ?_) ?_
           rotate_left
           · (go_simp; done)
           · ((try dsimp only at hS'); go_simp; try with_reducible rfl)
           simp only [Act.put, List.setIfInBounds_toArray, List.set_cons_zero, List.set_cons_succ])
        | (with_reducible refine po_skip ?_ ?_
           · (go_simp; done)
           simp only [Act.put, List.setIfInBounds_toArray, List.set_cons_zero, List.set_cons_succ]))
      with_reducible refine po_run ?_ (fun K hK => ?_) ?_
      · (go_simp; done)
      rotate_left
      · exact po_stop
      go_simp
      obtain ⟨A2, c2, e1, h1⟩ := HX.formQ 6 rfl
      simp only [Value.slice.injEq, true_and] at e1
      obtain ⟨rfl, rfl⟩ := e1
      refine (implRunHeap_any _ _ _ _ _ cs h1).mono ?_
      rintro e w7 ⟨cv, rvs4, rv, rfl, K⟩
      replace HX := HX.merge K
      simp only [List.cons_append, List.nil_append] at HX
      obtain ⟨Z, hZ⟩ : ∃ Z, Z = mRun cs := ⟨_, rfl⟩
      have HZK := Go.Lib.hid (run_ok HC.out)
      rw [← hZ] at HX HZK HVV
      clear K h1 x0 x1 hZ
      obtain ⟨C4, kC4, rfl, -⟩ := HX.formC 0 rfl
      obtain ⟨R4, kR4, rfl, -⟩ := HX.formI 1 rfl
      obtain ⟨x0, x1, -, -⟩ := HX.box2 5 rfl
      refine hK.out _ _ (.inr (⟨x0, x1⟩)) ?_
      clear hK K
      with_reducible refine po_run ?_ (fun K hK => ?_) ?_
      · (go_simp; done)
      rotate_left
      · exact po_stop
      go_simp
      refine (sameView_yes _ _ _ _ _ X Z (HX.rdH 6 7 rfl rfl) (HX.rdH 0 1 rfl rfl) HOK.out HZK.out HVV.out).mono ?_
      rintro e w8 ⟨rfl, hb⟩
      replace HX := HX.call hb
      clear hb x0 x1
      obtain ⟨x0, x1, -, -⟩ := HX.box2 5 rfl
      refine hK.out _ _ (.inr (⟨x0, x1⟩)) ?_
      clear hK K
      repeat (first
        | (with_reducible refine po_take (v := ?_) ?_ (fun w' hS' => ?_) ?_
           rotate_left
           · (go_simp; done)
           · ((try dsimp only at hS'); go_simp; try with_reducible rfl)
           simp only [Act.put, List.setIfInBounds_toArray, List.set_cons_zero, List.set_cons_succ])
        | (with_reducible refine po_skip ?_ ?_
           · (go_simp; done)
           simp only [Act.put, List.setIfInBounds_toArray, List.set_cons_zero, List.set_cons_succ]))
      with_reducible refine po_no ?_ ?_ ?_ ?_
      · (go_simp; done)
      · exact .inr (⟨x0, x1⟩)
      rotate_left
      · exact po_stop
      simp only [Act.put, List.setIfInBounds_toArray, List.set_cons_zero, List.set_cons_succ]
      repeat (first
        | (with_reducible refine po_take (v := ?_) ?_ (fun w' hS' => ?_) ?_
           rotate_left
           · (go_simp; done)
           · ((try dsimp only at hS'); go_simp; try with_reducible rfl)
           simp only [Act.put, List.setIfInBounds_toArray, List.set_cons_zero, List.set_cons_succ])
        | (with_reducible refine po_skip ?_ ?_
           · (go_simp; done)
           simp only [Act.put, List.setIfInBounds_toArray, List.set_cons_zero, List.set_cons_succ]))
      refine po_done ?_
      have HB := HX.below
      clear HX x0 x1
      go_wp2
      go_ret
      exact ⟨rfl, HB⟩
end Go.Proofs.Ytpafdaooddbpkaa
