/- The law FnExactLazyTake returns true for every argument that can be read. Printed by gen3.py. -/
import Derived.Test.YtjpfgbckmcjjaaaLtS
import Derived.Test.YtjpfgbckmcjjaaaLtI
import Derived.Test.YtjpfgbckmcjjaaaZ0
import Derived.Test.YtjpfgbckmcjjaaaZ1
import Derived.Test.YtjpfgbckmcjjaaaZb
import Derived.Test.YtjpfgbckmcjjaaaZo
import Derived.Test.YtjpfgbckmcjjaaaOpZ
import Derived.Test.YtjpfgbckmcjjaaaLr
namespace Go.Proofs.Ytjpfgbckmcjjaaa
open Go.RowKit
set_option maxHeartbeats 6400000 in
set_option maxRecDepth 20000 in
theorem lawLazyTake_any (w : World) {B0 : Nat} {v0a : Value} {l0 : Lz} (hh0 : RdZ w B0 v0a l0) :
    Calls Try.prog 8 #[v0a] w fun e w' => e = .returned (.bool true) ∧ Below w.heap.size w w' := by
  have hh0' := hh0.top
  obtain ⟨D0, m0, d0, E0, e0, f0, P0, p0, q0, rfl, hC0, hR0, hE0⟩ := hh0.top
  have H := Owns.nil w
  replace H := H.box [.slice D0 m0 d0, .slice E0 e0 f0, .slice P0 p0 q0, .int .i64 l0.at_] 64
  obtain ⟨a0b0, a0b1, a0b2, a0b3, -, -, -, -⟩ := H.box4 0 rfl
  go_enter Try.func8, Try.ntmps8
  go_wp2_with fail
  refine (szLazy_any _ _ _ l0 _ (hh0'.below H.below) (by omega) (by omega)).mono ?_
  rintro e w1 ⟨rfl, hb⟩
  replace H := H.call hb
  clear a0b0 a0b1 a0b2 a0b3 hb
  by_cases c2 : (lzBulk l0 : Int) ≤ 1048576
  rotate_left
  · have HB := H.below
    rw [szI_no (by omega)]
    go_wp2
    go_ret
    exact ⟨rfl, HB⟩
  rw [szI_yes c2]
  have hs : Small l0.store := by unfold Small; unfold lzBulk at c2; omega
  have hs4 : l0.marks.length ≤ 1048576 := by unfold lzBulk at c2; omega
  have hkA0 : kLzz l0 ≤ 16777216 := lzBulk_k c2
  obtain ⟨a0b0, a0b1, a0b2, a0b3, -, -, -, -⟩ := H.box4 0 rfl
  go_wp2_with fail
  refine (toLazy_any _ _ _ l0 (hh0'.below H.below) hs hs4).mono ?_
  rintro e w2 ⟨cvr0, rvsr0, rvr0, mvr0, rfl, Kr⟩
  have rr0 := Kr.rdZ 0 1 2 rfl rfl rfl rfl
  have hb := Kr.below
  have ho := hb
  clear Kr
  replace H := H.call hb
  clear a0b0 a0b1 a0b2 a0b3 hb ho
  go_wp2_with fail
  refine (specLazyTake_any _ _ _ l0 rr0).mono ?_
  rintro e w3 ⟨cvW0, rvsW0, rvW0, mvW0, rfl, K⟩
  replace K := H.merge K
  simp only [List.cons_append, List.nil_append] at K
  obtain ⟨G0, HG0⟩ : ∃ T, Hid ((mTake l0).1 = T) := ⟨_, Go.Lib.hid rfl⟩
  obtain ⟨G1, HG1⟩ : ∃ T, Hid ((mTake l0).2 = T) := ⟨_, Go.Lib.hid rfl⟩
  have hk0 : kLzz G0 ≤ 16777216 := by rw [← HG0.out]; exact mTake_len l0
  rw [HG0.out] at K ⊢
  rw [HG1.out]
  obtain ⟨FW0_0, fW0_0, rfl, -⟩ := K.formC 0 rfl
  obtain ⟨FW0_1, fW0_1, rfl, -⟩ := K.formI 1 rfl
  obtain ⟨FW0_2, fW0_2, rfl, -⟩ := K.formB 2 rfl
  clear H
  have H := K.box [.slice FW0_0 G0.store.cells.length fW0_0, .slice FW0_1 G0.store.roots.length fW0_1, .slice FW0_2 G0.marks.length fW0_2, .int .i64 G0.at_] 50
  clear K
  clear rr0
  obtain ⟨a0b0, a0b1, a0b2, a0b3, -, -, -, -⟩ := H.box4 4 rfl
  go_wp2_with fail
  refine (toLazy_any _ _ _ l0 (hh0'.below H.below) hs hs4).mono ?_
  rintro e w4 ⟨cvX0, rvsX0, rvX0, mvX0, rfl, Kr⟩
  have K := H.merge Kr
  simp only [List.cons_append, List.nil_append] at K
  clear Kr
  obtain ⟨FX0_0, fX0_0, rfl, -⟩ := K.formC 0 rfl
  obtain ⟨FX0_1, fX0_1, rfl, -⟩ := K.formI 1 rfl
  obtain ⟨FX0_2, fX0_2, rfl, -⟩ := K.formB 2 rfl
  clear a0b0 a0b1 a0b2 a0b3 H
  have H := K.box [.slice FX0_0 l0.store.cells.length fX0_0, .slice FX0_1 l0.store.roots.length fX0_1, .slice FX0_2 l0.marks.length fX0_2, .int .i64 l0.at_] 50
  clear K
  obtain ⟨X0b0, X0b1, X0b2, X0b3, -, -, -, -⟩ := H.box4 0 rfl
  go_wp2_with fail
  refine (implLazyTake_any _ _ _ l0 (H.rdZ 1 2 3 rfl rfl rfl rfl)).mono ?_
  rintro e w5 ⟨cvg0, rvsg0, rvg0, mvg0, rfl, K⟩
  replace K := H.merge K
  simp only [List.cons_append, List.nil_append] at K
  rw [HG0.out] at K ⊢
  rw [HG1.out]
  obtain ⟨Fg0_0, fg0_0, rfl, -⟩ := K.formC 0 rfl
  obtain ⟨Fg0_1, fg0_1, rfl, -⟩ := K.formI 1 rfl
  obtain ⟨Fg0_2, fg0_2, rfl, -⟩ := K.formB 2 rfl
  clear X0b0 X0b1 X0b2 X0b3 H
  have H := K.box [.slice Fg0_0 G0.store.cells.length fg0_0, .slice Fg0_1 G0.store.roots.length fg0_1, .slice Fg0_2 G0.marks.length fg0_2, .int .i64 G0.at_] 50
  clear K
  obtain ⟨g0b0, g0b1, g0b2, g0b3, -, -, -, -⟩ := H.box4 0 rfl
  obtain ⟨W0b0, W0b1, W0b2, W0b3, -, -, -, -⟩ := H.box4 8 rfl
  go_wp2_with fail
  refine (eqLazy_any _ _ _ _ _ G0 (H.rdZ 1 2 3 rfl rfl rfl rfl) (H.rdZ 9 10 11 rfl rfl rfl rfl)).mono ?_
  rintro e w6 ⟨rfl, hb⟩
  replace H := H.call hb
  clear g0b0 g0b1 g0b2 g0b3 W0b0 W0b1 W0b2 W0b3 hb
  have HX := H.drew
  obtain ⟨b0, b1, b2, b3, -, -, -, -⟩ := HX.box4 4 rfl
  obtain ⟨a0, a1, a2, a3, -, -, -, -⟩ := HX.box4 12 rfl
  have HX0 := Go.Lib.hid H
  clear H
  go_wp2_with fail
  refine wp_region_tree (fun w' => (w'.cell? ⟨w4.heap.size, 0, none⟩ = some (.slice FX0_0 l0.store.cells.length fX0_0) ∧ w'.cell? ⟨w4.heap.size, 1, none⟩ = some (.slice FX0_1 l0.store.roots.length fX0_1) ∧ w'.cell? ⟨w4.heap.size, 2, none⟩ = some (.slice FX0_2 l0.marks.length fX0_2) ∧ w'.cell? ⟨w4.heap.size, 3, none⟩ = some (.int .i64 l0.at_)) ∧ w'.cell? ⟨w.heap.size, 0, none⟩ = some (.slice D0 m0 d0) ∧ w'.cell? ⟨w.heap.size, 1, none⟩ = some (.slice E0 e0 f0) ∧ w'.cell? ⟨w.heap.size, 2, none⟩ = some (.slice P0 p0 q0) ∧ w'.cell? ⟨w.heap.size, 3, none⟩ = some (.int .i64 l0.at_)) 5 [] (.take 0 (.take 1 (.alt 2 (.alt 3 (.take 4 (.done)) (.stop)) (.stop)))) (by kernel_rfl) (by kernel_rfl) (by kernel_rfl) (⟨⟨b0, b1, b2, b3⟩, a0, a1, a2, a3⟩) ?_
  simp only [fillT, List.getElem?_cons_zero, List.getElem?_cons_succ, Nat.reduceBEq]
  repeat (first
    | (with_reducible refine po_take (v := ?_) ?_ (fun w' hS' => ?_) ?_
       rotate_left
       · (go_simp; done)
       · ((try dsimp only at hS'); go_simp; try with_reducible rfl)
       simp only [Act.put, List.setIfInBounds_toArray, List.set_cons_zero, List.set_cons_succ])
    | (with_reducible refine po_skip ?_ ?_
       · (go_simp; done)
       simp only [Act.put, List.setIfInBounds_toArray, List.set_cons_zero, List.set_cons_succ]))
  with_reducible refine po_run ?_ (fun K hK => ?_) ?_
  · (go_simp; done)
  rotate_left
  · exact po_stop
  go_simp
  refine (toLazy_any _ _ _ l0 (hh0'.below HX.below) hs hs4).mono ?_
  rintro e wp ⟨cvp, rvsp, rvp, mvp, rfl, Kp⟩
  have rp := Kp.rdZ 0 1 2 rfl rfl rfl rfl
  have hb := Kp.below
  have ho := hb
  clear Kp
  replace HX := HX.call hb
  refine hK.out _ _ (.inr (⟨⟨keept b0 hb, keept b1 hb, keept b2 hb, keept b3 hb⟩, keept a0 hb, keept a1 hb, keept a2 hb, keept a3 hb⟩)) ?_
  clear hK K
  replace b0 := keept b0 hb
  replace b1 := keept b1 hb
  replace b2 := keept b2 hb
  replace b3 := keept b3 hb
  replace a0 := keept a0 hb
  replace a1 := keept a1 hb
  replace a2 := keept a2 hb
  replace a3 := keept a3 hb
  with_reducible refine po_run ?_ (fun K hK => ?_) ?_
  · (go_simp; done)
  rotate_left
  · exact po_stop
  go_simp
  refine (eqLazy_any _ _ _ _ _ l0 (HX.rdZ 5 6 7 rfl rfl rfl rfl) rp).mono ?_
  rintro e wq ⟨rfl, hb3⟩
  replace HX := HX.call hb3
  refine hK.out _ _ (.inr (⟨⟨keept b0 hb3, keept b1 hb3, keept b2 hb3, keept b3 hb3⟩, keept a0 hb3, keept a1 hb3, keept a2 hb3, keept a3 hb3⟩)) ?_
  clear hK K
  repeat (first
    | (with_reducible refine po_take (v := ?_) ?_ (fun w' hS' => ?_) ?_
       rotate_left
       · (go_simp; done)
       · ((try dsimp only at hS'); go_simp; try with_reducible rfl)
       simp only [Act.put, List.setIfInBounds_toArray, List.set_cons_zero, List.set_cons_succ])
    | (with_reducible refine po_skip ?_ ?_
       · (go_simp; done)
       simp only [Act.put, List.setIfInBounds_toArray, List.set_cons_zero, List.set_cons_succ]))
  refine po_done ?_
  have H := HX
  clear HX HX0 hb hb3 ho rp b0 b1 b2 b3 a0 a1 a2 a3
  obtain ⟨X0b0, X0b1, X0b2, X0b3, -, -, -, -⟩ := H.box4 4 rfl
  have HG : OwZ _ w.heap.size w (.agg #[.slice FX0_0 l0.store.cells.length fX0_0, .slice FX0_1 l0.store.roots.length fX0_1, .slice FX0_2 l0.marks.length fX0_2, .int .i64 l0.at_]) l0 _ := ⟨_, _, _, _, rfl, (H.places [5, 6, 7, 0, 1, 2, 3, 4, 8, 9, 10, 11, 12] (by decide) (by simp))⟩
  go_wp2_with fail
  refine (markLazy_own HG (1) (by omega) (by omega)).mono ?_
  rintro e w7 ⟨rfl, hG⟩
  obtain ⟨cvM, rvsM, rvM, hvM, eM, K⟩ := hG
  simp only [Value.agg.injEq, Array.mk.injEq, List.cons.injEq, and_true] at eM
  obtain ⟨rfl, rfl, rfl, -⟩ := eM
  clear X0b0 X0b1 X0b2 X0b3 HG H
  have H := K
  clear K
  simp only [List.filterMap_cons, List.filterMap_nil, List.getElem?_cons_zero, List.getElem?_cons_succ] at H
  obtain ⟨g0b0, g0b1, g0b2, g0b3, -, -, -, -⟩ := H.box4 3 rfl
  obtain ⟨W0b0, W0b1, W0b2, W0b3, -, -, -, -⟩ := H.box4 8 rfl
  go_wp2_with fail
  refine (eqLazy_any _ _ _ _ _ G0 (H.rdZ 4 5 6 rfl rfl rfl rfl) (H.rdZ 9 10 11 rfl rfl rfl rfl)).mono ?_
  rintro e w8 ⟨rfl, hb⟩
  replace H := H.call hb
  clear g0b0 g0b1 g0b2 g0b3 W0b0 W0b1 W0b2 W0b3 hb
  obtain ⟨g0b0, g0b1, g0b2, g0b3, -, -, -, -⟩ := H.box4 3 rfl
  have HG : OwZ _ w.heap.size w (.agg #[.slice Fg0_0 G0.store.cells.length fg0_0, .slice Fg0_1 G0.store.roots.length fg0_1, .slice Fg0_2 G0.marks.length fg0_2, .int .i64 G0.at_]) G0 _ := ⟨_, _, _, _, rfl, (H.places [4, 5, 6, 0, 1, 2, 3, 7, 8, 9, 10, 11, 12] (by decide) (by simp))⟩
  go_wp2_with fail
  refine (markLazy_own HG (1) (by omega) (by omega)).mono ?_
  rintro e w9 ⟨rfl, hG⟩
  obtain ⟨cvM, rvsM, rvM, hvM, eM, K⟩ := hG
  simp only [Value.agg.injEq, Array.mk.injEq, List.cons.injEq, and_true] at eM
  obtain ⟨rfl, rfl, rfl, -⟩ := eM
  clear g0b0 g0b1 g0b2 g0b3 HG H
  have H := K
  clear K
  simp only [List.filterMap_cons, List.filterMap_nil, List.getElem?_cons_zero, List.getElem?_cons_succ] at H
  obtain ⟨g0b0, g0b1, g0b2, g0b3, -, -, -, -⟩ := H.box4 6 rfl
  go_wp2_with fail
  refine (heldLazy_any _ _ _ G0 (1) (H.rdZ 0 1 2 rfl rfl rfl rfl) (by omega) (by omega)).mono ?_
  rintro e w10 ⟨rfl, hb⟩
  replace H := H.call hb
  clear g0b0 g0b1 g0b2 g0b3 hb
  obtain ⟨a0b0, a0b1, a0b2, a0b3, -, -, -, -⟩ := H.box4 12 rfl
  go_wp2_with fail
  refine (toLazy_any _ _ _ l0 (hh0'.below H.below) hs hs4).mono ?_
  rintro e w11 ⟨cvs0, rvss0, rvs0, mvs0, rfl, Kr⟩
  have rs0 := Kr.rdZ 0 1 2 rfl rfl rfl rfl
  have hb := Kr.below
  have ho := hb
  clear Kr
  replace H := H.call hb
  clear a0b0 a0b1 a0b2 a0b3 hb ho
  go_wp2_with fail
  refine (implLazyTake_any _ _ _ l0 rs0).mono ?_
  rintro e w12 ⟨cvh0, rvsh0, rvh0, mvh0, rfl, K⟩
  replace K := H.merge K
  simp only [List.cons_append, List.nil_append] at K
  rw [HG0.out] at K ⊢
  rw [HG1.out]
  obtain ⟨Fh0_0, fh0_0, rfl, -⟩ := K.formC 0 rfl
  obtain ⟨Fh0_1, fh0_1, rfl, -⟩ := K.formI 1 rfl
  obtain ⟨Fh0_2, fh0_2, rfl, -⟩ := K.formB 2 rfl
  clear H
  have H := K.box [.slice Fh0_0 G0.store.cells.length fh0_0, .slice Fh0_1 G0.store.roots.length fh0_1, .slice Fh0_2 G0.marks.length fh0_2, .int .i64 G0.at_] 50
  clear K
  clear rs0
  obtain ⟨h0b0, h0b1, h0b2, h0b3, -, -, -, -⟩ := H.box4 0 rfl
  obtain ⟨W0b0, W0b1, W0b2, W0b3, -, -, -, -⟩ := H.box4 12 rfl
  go_wp2_with fail
  refine (eqLazy_any _ _ _ _ _ G0 (H.rdZ 1 2 3 rfl rfl rfl rfl) (H.rdZ 13 14 15 rfl rfl rfl rfl)).mono ?_
  rintro e w13 ⟨rfl, hb⟩
  replace H := H.call hb
  clear h0b0 h0b1 h0b2 h0b3 W0b0 W0b1 W0b2 W0b3 hb
  obtain ⟨g0b0, g0b1, g0b2, g0b3, -, -, -, -⟩ := H.box4 10 rfl
  go_wp2_with fail
  refine (heldLazy_any _ _ _ G0 (1) (H.rdZ 4 5 6 rfl rfl rfl rfl) (by omega) (by omega)).mono ?_
  rintro e w14 ⟨rfl, hb⟩
  replace H := H.call hb
  clear g0b0 g0b1 g0b2 g0b3 hb
  have HB := H.below
  clear H
  go_wp2
  go_ret
  exact ⟨rfl, HB⟩
end Go.Proofs.Ytjpfgbckmcjjaaa
