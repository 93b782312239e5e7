/- The program's CellsFrom at a used cell of a valid heap; two equal lists of flags are the same. For every heap and lists that can be read. -/
import Derived.Test.YtpglhmlebcigfaaRa
import Derived.Test.YtpglhmlebcigfaaRd
import Derived.Test.YtpglhmlebcigfaaWt
namespace Go.Proofs.Ytpglhmlebcigfaa
open Go.RowKit
set_option maxHeartbeats 1600000 in
set_option maxRecDepth 20000 in
theorem implCellsFrom_any (w : World) (B : Nat) (v : Value) (h : Hp) (x : Int) (hh : RdH w B v h) (hok : heapOk h = true) (hu : usedB h.cells x = true) :
    Calls Try.prog 14 #[v, .int .i64 x] w (MadeB w (reachL h.cells [x])) := by
  have hh' := hh.top
  obtain ⟨D, m, d, D', m', d', rfl, hC, hR⟩ := hh.top
  have l3 := hC.le1; have l4 := hC.le2
  obtain ⟨s4, -⟩ := heapOk_small hok
  have h64 : h.cells.length ≤ 64 := by omega
  have hm : m ≤ 1048576 := by omega
  have HL := Go.Lib.hid (list_clos (h := h) (fr := [x]) (n := m) (by omega) h64)
  have HM := Go.Lib.hid (closM_lt h.cells (usedM h.cells) [x])
  have H1 := (Owns.nil w).box [.slice D m d, .slice D' m' d'] 26
  go_enter Try.func14, Try.ntmps14
  go_wp2_with fail
  refine (isUsed_any _ _ _ h x (hh'.below H1.below)).mono ?_
  rintro e w1 ⟨rfl, hb1⟩
  rw [hok, hu]
  have H2 := H1.call hb1
  clear H1 hb1 hok hu
  have HX := H2.drew
  have H0 := Go.Lib.hid H2
  clear H2
  obtain ⟨b0, b1, -, -⟩ := HX.box2 0 rfl
  go_wp2_with fail
  refine wp_region_tree (fun w' => w'.cell? ⟨w.heap.size, 0, none⟩ = some (.slice D m d) ∧ w'.cell? ⟨w.heap.size, 1, none⟩ = some (.slice D' m' d')) 8 [] (.take 0 (.take 1 (.take 3 (.take 4 (.take 5 (.alt 2 (.alt 6 (.take 7 (.done)) (.stop)) (.stop))))))) (by kernel_rfl) (by kernel_rfl) (by kernel_rfl) (⟨b0, b1⟩) ?_
  simp only [fillT, List.getElem?_cons_zero, List.getElem?_cons_succ, Nat.reduceBEq]
  repeat (first
    | (with_reducible refine po_take (v := ?_) ?_ (fun w' hS' => ?_) ?_
       rotate_left
       · (go_simp; done)
       · ((try dsimp only at hS'); go_simp; try with_reducible rfl)
       simp only [Act.put, List.setIfInBounds_toArray, List.set_cons_zero, List.set_cons_succ])
    | (with_reducible refine po_skip ?_ ?_
       · (go_simp; done)
       simp only [Act.put, List.setIfInBounds_toArray, List.set_cons_zero, List.set_cons_succ]))
  with_reducible refine po_run ?_ (fun K hK => ?_) ?_
  · (go_simp; done)
  rotate_left
  · exact po_stop
  go_simp
  refine (cellsFrom_any _ _ _ h x (hh'.below HX.below) h64).mono ?_
  rintro e w7 ⟨rfl, hb⟩
  replace HX := HX.call hb
  replace b0 := keept b0 hb
  replace b1 := keept b1 hb
  refine hK.out _ _ (.inr (⟨b0, b1⟩)) ?_
  clear hK K
  with_reducible refine po_run ?_ (fun K hK => ?_) ?_
  · (go_simp; done)
  rotate_left
  · exact po_stop
  go_simp
  refine (list_any _ m _ HM.out hm).mono ?_
  rintro e w9 ⟨v9, rfl, ho9, hb⟩
  rw [HL.out] at ho9
  replace HX := HX.madeB ho9 hb
  refine hK.out _ _ (.inr (⟨keept b0 hb, keept b1 hb⟩)) ?_
  clear hK K
  repeat (first
    | (with_reducible refine po_take (v := ?_) ?_ (fun w' hS' => ?_) ?_
       rotate_left
       · (go_simp; done)
       · ((try dsimp only at hS'); go_simp; try with_reducible rfl)
       simp only [Act.put, List.setIfInBounds_toArray, List.set_cons_zero, List.set_cons_succ])
    | (with_reducible refine po_skip ?_ ?_
       · (go_simp; done)
       simp only [Act.put, List.setIfInBounds_toArray, List.set_cons_zero, List.set_cons_succ]))
  refine po_done ?_
  clear b0 b1 ho9 hb H0
  go_wp2
  go_ret
  exact HX.toB 0 rfl
end Go.Proofs.Ytpglhmlebcigfaa
