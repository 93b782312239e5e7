/- Reachable, the program's: for every heap that can be read. -/
import Derived.Test.YtjpfgbckmcjjaaaLi
import Derived.Test.YtjpfgbckmcjjaaaClo
import Derived.Test.YtjpfgbckmcjjaaaZ0
import Derived.Test.YtjpfgbckmcjjaaaZ1
namespace Go.Proofs.Ytjpfgbckmcjjaaa
open Go.RowKit
set_option maxHeartbeats 1600000 in
set_option maxRecDepth 20000 in
theorem implReachable_any (w : World) (B : Nat) (v : Value) (h : Hp) (hh : RdH w B v h) :
    Calls Try.prog 23 #[v] w (MadeB w (mReachable h)) := by
  have hh' := hh.top
  obtain ⟨D, m, d, D', m', d', rfl, hC, hR⟩ := hh.top
  have l3 := hC.le1; have l4 := hC.le2
  have H1 := (Owns.nil w).box [.slice D m d, .slice D' m' d'] 26
  go_enter Try.func23, Try.ntmps23
  go_wp2_with fail
  refine (heapValid_any _ _ _ h (hh'.below H1.below)).mono ?_
  rintro e w1 ⟨rfl, hb1⟩
  have H2 := H1.call hb1
  obtain ⟨a0, a1, -, -⟩ := H2.box2 0 rfl
  clear H1 hb1
  cases hy : heapOk h
  · have HF := Go.Lib.hid (mReachable_no hy)
    clear hy
    go_wp2
    go_ret
    rw [HF.out]
    exact H2.noBools.toB 0 rfl
  · obtain ⟨s4, -⟩ := heapOk_small hy
    have HF := Go.Lib.hid (mReachable_yes hy)
    have HL := Go.Lib.hid (list_clos (h := h) (fr := h.roots) (n := m) (by omega) (by omega))
    have HM := Go.Lib.hid (closM_lt h.cells (usedM h.cells) h.roots)
    clear hy
    have HX := H2.drew
    obtain ⟨b0, b1, -, -⟩ := HX.box2 0 rfl
    go_wp2_with fail
    refine wp_region_tree (fun w' => w'.cell? ⟨w.heap.size, 0, none⟩ = some (.slice D m d) ∧ w'.cell? ⟨w.heap.size, 1, none⟩ = some (.slice D' m' d')) 7 [] (.take 0 (.take 2 (.take 3 (.take 4 (.alt 1 (.alt 5 (.take 6 (.done)) (.stop)) (.stop)))))) (by kernel_rfl) (by kernel_rfl) (by kernel_rfl) (⟨b0, b1⟩) ?_
    simp only [fillT, List.getElem?_cons_zero, List.getElem?_cons_succ, Nat.reduceBEq]
    repeat (first
      | (with_reducible refine po_take (v := ?_) ?_ (fun w' hS' => ?_) ?_
         rotate_left
         · (go_simp; done)
         · ((try dsimp only at hS'); go_simp; try with_reducible rfl)
         simp only [Act.put, List.setIfInBounds_toArray, List.set_cons_zero, List.set_cons_succ])
      | (with_reducible refine po_skip ?_ ?_
         · (go_simp; done)
         simp only [Act.put, List.setIfInBounds_toArray, List.set_cons_zero, List.set_cons_succ]))
    with_reducible refine po_run ?_ (fun K hK => ?_) ?_
    · (go_simp; done)
    rotate_left
    · exact po_stop
    go_simp
    refine (reachable_any _ _ _ h (hh'.below HX.below) (by omega)).mono ?_
    rintro e w7 ⟨rfl, hb⟩
    replace HX := HX.call hb
    replace b0 := keept b0 hb
    replace b1 := keept b1 hb
    refine hK.out _ _ (.inr (⟨b0, b1⟩)) ?_
    clear hK K
    with_reducible refine po_run ?_ (fun K hK => ?_) ?_
    · (go_simp; done)
    rotate_left
    · exact po_stop
    go_simp
    refine (list_any _ m _ HM.out (by omega)).mono ?_
    rintro e w9 ⟨v9, rfl, ho9, hb⟩
    rw [HL.out, ← HF.out] at ho9
    replace HX := HX.madeB ho9 hb
    refine hK.out _ _ (.inr (⟨keept b0 hb, keept b1 hb⟩)) ?_
    clear hK K
    repeat (first
      | (with_reducible refine po_take (v := ?_) ?_ (fun w' hS' => ?_) ?_
         rotate_left
         · (go_simp; done)
         · ((try dsimp only at hS'); go_simp; try with_reducible rfl)
         simp only [Act.put, List.setIfInBounds_toArray, List.set_cons_zero, List.set_cons_succ])
      | (with_reducible refine po_skip ?_ ?_
         · (go_simp; done)
         simp only [Act.put, List.setIfInBounds_toArray, List.set_cons_zero, List.set_cons_succ]))
    refine po_done ?_
    clear b0 b1 a0 a1 ho9 hb
    go_wp2
    go_ret
    exact HX.toB 0 rfl
end Go.Proofs.Ytjpfgbckmcjjaaa
