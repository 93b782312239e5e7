/- The law FnRunCopy's walk: if the program comes to its end with a limit, it shows the same as without freeing; there are never more cells than the limit. For every code that can be read. Printed by gengrc.py. -/
import Derived.Test.YtdkpfggfkhnjfaaRcI
import Derived.Test.YtdkpfggfkhnjfaaRcS
import Derived.Test.YtdkpfggfkhnjfaaP4
import Derived.Test.YtdkpfggfkhnjfaaJc
import Derived.Test.YtdkpfggfkhnjfaaAl
import Derived.Test.YtdkpfggfkhnjfaaSm
import Derived.Test.YtdkpfggfkhnjfaaVi
namespace Go.Proofs.Ytdkpfggfkhnjfaa
open Go.RowKit
set_option maxHeartbeats 6400000 in
set_option maxRecDepth 20000 in
theorem lawRunCopy_any (w : World) {A : Option Addr} {n c : Nat} {bs : List Int} (hr : RdY w w.heap.size A n c bs) :
    Calls Try.prog 3 #[.slice A n c] w fun e w' => e = .returned (.bool true) ∧ Below w.heap.size w w' := by
  by_cases s0 : 1048576 < n
  · go_enter Try.func3, Try.ntmps3
    go_wp2
    go_ret
    exact ⟨rfl, Below.refl _ _⟩
  go_enter Try.func3, Try.ntmps3
  go_wp2_with fail
  refine (DrawRunCopy_any w A n c bs hr).mono ?_
  rintro e w1 ⟨v, cs, x, rfl, hl, hx0, hx1, H⟩
  obtain ⟨A1, c1, rfl, h1⟩ := H.formQ 0 rfl
  clear hr s0
  go_wp2_with fail
  refine (implRunCopy_any _ _ _ _ _ cs h1 x).mono ?_
  rintro e w2 ⟨cv, rvs, rv, rfl, K⟩
  obtain ⟨X, hX⟩ : ∃ X, X = mRunCpH mCopy cs x := ⟨_, rfl⟩
  obtain ⟨tb, htb⟩ : ∃ b, b = mRunCpB mCopy cs x := ⟨_, rfl⟩
  rw [← hX] at K
  rw [← htb]
  have HX := Go.Lib.hid hX
  have HT := Go.Lib.hid htb
  replace H := H.merge K
  simp only [List.cons_append, List.nil_append] at H
  clear K h1 hX htb
  obtain ⟨C, kC, rfl, -⟩ := H.formC 0 rfl
  obtain ⟨R, kR, rfl, -⟩ := H.formI 1 rfl
  replace H := H.box [.slice C X.cells.length kC, .slice R X.roots.length kR] 29
  obtain ⟨A2, c2, e1, h1⟩ := H.formQ 3 rfl
  simp only [Value.slice.injEq, true_and] at e1
  obtain ⟨rfl, rfl⟩ := e1
  go_wp2_with fail
  refine (specRunCopy_any _ _ _ _ _ cs h1 x).mono ?_
  rintro e w3 ⟨cv, rvs2, rv, rfl, K⟩
  rw [← HX.out] at K
  rw [← HT.out]
  replace H := H.merge K
  simp only [List.cons_append, List.nil_append] at H
  clear K h1
  obtain ⟨C2, kC2, rfl, -⟩ := H.formC 0 rfl
  obtain ⟨R2, kR2, rfl, -⟩ := H.formI 1 rfl
  replace H := H.box [.slice C2 X.cells.length kC2, .slice R2 X.roots.length kR2] 29
  obtain ⟨x0, x1, -, -⟩ := H.box2 0 rfl
  obtain ⟨y0, y1, -, -⟩ := H.box2 3 rfl
  go_wp2_with fail
  refine (sameHeap_yes _ _ _ _ _ X (H.rdH 4 5 rfl rfl) (H.rdH 1 2 rfl rfl)).mono ?_
  rintro e w4 ⟨rfl, hb⟩
  replace H := (H.call hb).order [3, 4, 5, 6] (L' := [.box w2.heap.size [.slice C X.cells.length kC, .slice R X.roots.length kR] 29, .cells (.slice C X.cells.length kC) rvs X.cells, .ints (.slice R X.roots.length kR) X.roots, .cmds (.slice A1 cs.length c1) cs]) (by decide) rfl
  clear hb x0 x1 y0 y1
  obtain ⟨A2, c2, e1, h1⟩ := H.formQ 3 rfl
  simp only [Value.slice.injEq, true_and] at e1
  obtain ⟨rfl, rfl⟩ := e1
  go_wp2_with fail
  refine (specCommandsValid_any _ _ _ _ _ cs h1).mono ?_
  rintro e w5 ⟨rfl, hb⟩
  replace H := H.call hb
  clear hb h1
  cases hc : cmdsOk cs
  · have HF : tb = false := by rw [HT.out]; exact cpB_no1 hc
    subst HF
    clear hc
    go_wp2_with fail
    refine (alive_any _).mono ?_
    rintro e wz ⟨rfl, hb⟩
    have HB := (H.call hb).below
    clear H hb
    go_wp2
    go_ret
    exact ⟨rfl, HB⟩
  by_cases hlo : x < 1
  · have HF : tb = false := by rw [HT.out]; exact cpB_no2 (by simp [inR]; omega)
    subst HF
    clear hc
    go_wp2_with fail
    refine (alive_any _).mono ?_
    rintro e wz ⟨rfl, hb⟩
    have HB := (H.call hb).below
    clear H hb
    go_wp2
    go_ret
    exact ⟨rfl, HB⟩
  by_cases hhi : 40 < x
  · have HF : tb = false := by rw [HT.out]; exact cpB_no2 (by simp [inR]; omega)
    subst HF
    clear hc
    go_wp2_with fail
    refine (alive_any _).mono ?_
    rintro e wz ⟨rfl, hb⟩
    have HB := (H.call hb).below
    clear H hb
    go_wp2
    go_ret
    exact ⟨rfl, HB⟩
  obtain ⟨L, rfl⟩ := Int.eq_ofNat_of_zero_le hx0
  have hL1 : 1 ≤ L := by omega
  have hL2 : L ≤ 40 := by omega
  obtain ⟨f1, f2, f3, f4⟩ := cp_facts (L := L) copy_mover hc hL1 hL2
  rw [← HX.out] at f1 f2 f3
  rw [← HT.out] at f3 f4
  have HV := Go.Lib.hid f3
  have HOK := Go.Lib.hid f1
  have HP := Go.Lib.hid f4
  have HC := Go.Lib.hid hc
  have HPk := Go.Lib.hid (mPeak_yes hc)
  have s9 : (X.cells.length : Int) ≤ (L : Int) := by omega
  clear f1 f2 f3 f4 hc
  go_wp2_with fail
  have HX2 := H.drew
  clear H
  have HX := HX2
  clear HX2
  obtain ⟨x0, x1, -, -⟩ := HX.box2 0 rfl
  cases tb
  · have hp := HP.out rfl
    obtain ⟨P, hP⟩ : ∃ P, P = peakTo cs cs.length := ⟨_, rfl⟩
    rw [← hP] at hp HPk
    have s7 : (L : Int) ≤ (P : Int) := by omega
    have hU : undef = Value.tuple #[] := rfl
    clear hP hp
    refine wp_region_tree (fun w' => w'.cell? ⟨w2.heap.size, 0, none⟩ = some (.slice C X.cells.length kC) ∧ w'.cell? ⟨w2.heap.size, 1, none⟩ = some (.slice R X.roots.length kR)) 25 [] (.take 0 (.take 1 (.take 2 (.take 3 (.take 4 (.take 5 (.take 6 (.take 7 (.take 8 (.take 9 (.take 10 (.alt 11 (.alt 12 (.take 13 (.take 14 (.take 15 (.take 16 (.take 17 (.take 18 (.take 19 (.alt 20 (.take 21 (.take 22 (.take 23 (.take 24 (.done))))) (.stop))))))))) (.stop)) (.stop))))))))))))) (by kernel_rfl) (by kernel_rfl) (by kernel_rfl) (⟨x0, x1⟩) ?_
    simp only [fillT, List.getElem?_cons_zero, List.getElem?_cons_succ, Nat.reduceBEq]
    repeat (first
      | (with_reducible refine po_take (v := ?_) ?_ (fun w' hS' => ?_) ?_
         rotate_left
         · (go_simp; done)
         · ((try dsimp only at hS'); go_simp; try with_reducible rfl)
         simp only [Act.put, List.setIfInBounds_toArray, List.set_cons_zero, List.set_cons_succ])
      | (with_reducible refine po_skip ?_ ?_
         · (go_simp; done)
         simp only [Act.put, List.setIfInBounds_toArray, List.set_cons_zero, List.set_cons_succ]))
    with_reducible refine po_no ?_ ?_ ?_ ?_
    · (go_simp; done)
    · exact .inr (⟨x0, x1⟩)
    rotate_left
    · exact po_stop
    simp only [Act.put, List.setIfInBounds_toArray, List.set_cons_zero, List.set_cons_succ]
    with_reducible refine po_no ?_ ?_ ?_ ?_
    · (go_simp; done)
    · exact .inr (⟨x0, x1⟩)
    rotate_left
    · exact po_stop
    simp only [Act.put, List.setIfInBounds_toArray, List.set_cons_zero, List.set_cons_succ]
    repeat (first
      | (with_reducible refine po_take (v := ?_) ?_ (fun w' hS' => ?_) ?_
         rotate_left
         · (go_simp; done)
         · ((try dsimp only at hS'); go_simp; try with_reducible rfl)
         simp only [Act.put, List.setIfInBounds_toArray, List.set_cons_zero, List.set_cons_succ])
      | (with_reducible refine po_skip ?_ ?_
         · (go_simp; done)
         simp only [Act.put, List.setIfInBounds_toArray, List.set_cons_zero, List.set_cons_succ]))
    with_reducible refine po_run ?_ (fun K hK => ?_) ?_
    · (go_simp; done)
    rotate_left
    · exact po_stop
    go_simp
    obtain ⟨A2, c2, e1, h1⟩ := HX.formQ 3 rfl
    simp only [Value.slice.injEq, true_and] at e1
    obtain ⟨rfl, rfl⟩ := e1
    refine (implPeakLive_any _ _ _ _ _ cs h1).mono ?_
    rintro e w7 ⟨rfl, hb⟩
    rw [HPk.out]
    replace HX := HX.call hb
    clear hb h1 x0 x1
    obtain ⟨x0, x1, -, -⟩ := HX.box2 0 rfl
    refine hK.out _ _ (.inr (⟨x0, x1⟩)) ?_
    clear hK K
    repeat (first
      | (with_reducible refine po_take (v := ?_) ?_ (fun w' hS' => ?_) ?_
         rotate_left
         · (go_simp; done)
         · ((try dsimp only at hS'); go_simp; try with_reducible rfl)
         simp only [Act.put, List.setIfInBounds_toArray, List.set_cons_zero, List.set_cons_succ])
      | (with_reducible refine po_skip ?_ ?_
         · (go_simp; done)
         simp only [Act.put, List.setIfInBounds_toArray, List.set_cons_zero, List.set_cons_succ]))
    refine po_done ?_
    have HB := HX.below
    clear HX x0 x1
    go_wp2
    go_ret
    exact ⟨rfl, HB⟩
  · have HVV := Go.Lib.hid (HV.out rfl)
    refine wp_region_tree (fun w' => w'.cell? ⟨w2.heap.size, 0, none⟩ = some (.slice C X.cells.length kC) ∧ w'.cell? ⟨w2.heap.size, 1, none⟩ = some (.slice R X.roots.length kR)) 25 [] (.take 0 (.take 1 (.take 2 (.take 3 (.take 4 (.take 5 (.take 6 (.take 7 (.take 8 (.take 9 (.take 10 (.alt 11 (.alt 12 (.take 13 (.take 14 (.take 15 (.take 16 (.take 17 (.take 18 (.take 19 (.alt 20 (.take 21 (.take 22 (.take 23 (.take 24 (.done))))) (.stop))))))))) (.stop)) (.stop))))))))))))) (by kernel_rfl) (by kernel_rfl) (by kernel_rfl) (⟨x0, x1⟩) ?_
    simp only [fillT, List.getElem?_cons_zero, List.getElem?_cons_succ, Nat.reduceBEq]
    repeat (first
      | (with_reducible refine po_take (v := ?_) ?_ (fun w' hS' => ?_) ?_
         rotate_left
         · (go_simp; done)
         · ((try dsimp only at hS'); go_simp; try with_reducible rfl)
         simp only [Act.put, List.setIfInBounds_toArray, List.set_cons_zero, List.set_cons_succ])
      | (with_reducible refine po_skip ?_ ?_
         · (go_simp; done)
         simp only [Act.put, List.setIfInBounds_toArray, List.set_cons_zero, List.set_cons_succ]))
    with_reducible refine po_run ?_ (fun K hK => ?_) ?_
    · (go_simp; done)
    rotate_left
    · exact po_stop
    go_simp
    obtain ⟨A2, c2, e1, h1⟩ := HX.formQ 3 rfl
    simp only [Value.slice.injEq, true_and] at e1
    obtain ⟨rfl, rfl⟩ := e1
    refine (implRunHeap_any _ _ _ _ _ cs h1).mono ?_
    rintro e w7 ⟨cv, rvs4, rv, rfl, K⟩
    replace HX := HX.merge K
    simp only [List.cons_append, List.nil_append] at HX
    obtain ⟨Z, hZ⟩ : ∃ Z, Z = mRun cs := ⟨_, rfl⟩
    have HZK := Go.Lib.hid (run_ok HC.out)
    rw [← hZ] at HX HZK HVV
    clear K h1 x0 x1 hZ
    obtain ⟨C4, kC4, rfl, -⟩ := HX.formC 0 rfl
    obtain ⟨R4, kR4, rfl, -⟩ := HX.formI 1 rfl
    obtain ⟨x0, x1, -, -⟩ := HX.box2 2 rfl
    refine hK.out _ _ (.inr (⟨x0, x1⟩)) ?_
    clear hK K
    with_reducible refine po_run ?_ (fun K hK => ?_) ?_
    · (go_simp; done)
    rotate_left
    · exact po_stop
    go_simp
    refine (sameView_yes _ _ _ _ _ X Z (HX.rdH 3 4 rfl rfl) (HX.rdH 0 1 rfl rfl) HOK.out HZK.out HVV.out).mono ?_
    rintro e w8 ⟨rfl, hb⟩
    replace HX := HX.call hb
    clear hb x0 x1
    obtain ⟨x0, x1, -, -⟩ := HX.box2 2 rfl
    refine hK.out _ _ (.inr (⟨x0, x1⟩)) ?_
    clear hK K
    repeat (first
      | (with_reducible refine po_take (v := ?_) ?_ (fun w' hS' => ?_) ?_
         rotate_left
         · (go_simp; done)
         · ((try dsimp only at hS'); go_simp; try with_reducible rfl)
         simp only [Act.put, List.setIfInBounds_toArray, List.set_cons_zero, List.set_cons_succ])
      | (with_reducible refine po_skip ?_ ?_
         · (go_simp; done)
         simp only [Act.put, List.setIfInBounds_toArray, List.set_cons_zero, List.set_cons_succ]))
    with_reducible refine po_no ?_ ?_ ?_ ?_
    · (go_simp; done)
    · exact .inr (⟨x0, x1⟩)
    rotate_left
    · exact po_stop
    simp only [Act.put, List.setIfInBounds_toArray, List.set_cons_zero, List.set_cons_succ]
    repeat (first
      | (with_reducible refine po_take (v := ?_) ?_ (fun w' hS' => ?_) ?_
         rotate_left
         · (go_simp; done)
         · ((try dsimp only at hS'); go_simp; try with_reducible rfl)
         simp only [Act.put, List.setIfInBounds_toArray, List.set_cons_zero, List.set_cons_succ])
      | (with_reducible refine po_skip ?_ ?_
         · (go_simp; done)
         simp only [Act.put, List.setIfInBounds_toArray, List.set_cons_zero, List.set_cons_succ]))
    refine po_done ?_
    have HB := HX.below
    clear HX x0 x1
    go_wp2
    go_ret
    exact ⟨rfl, HB⟩
end Go.Proofs.Ytdkpfggfkhnjfaa
