/- The law FnExactPackTable returns true for every argument that can be read. Printed by gen3.py. -/
import Derived.Test.YtoekikeomgfaiaaPkS
import Derived.Test.YtoekikeomgfaiaaPkL
import Derived.Test.YtoekikeomgfaiaaMh
import Derived.Test.YtoekikeomgfaiaaOpen
import Derived.Test.YtoekikeomgfaiaaTre
import Derived.Test.YtoekikeomgfaiaaSz
import Derived.Test.YtoekikeomgfaiaaTo
import Derived.Test.YtoekikeomgfaiaaEq
import Derived.Test.YtoekikeomgfaiaaHd
import Derived.Test.YtoekikeomgfaiaaMg
import Derived.Test.YtoekikeomgfaiaaMo
import Derived.Test.YtoekikeomgfaiaaTb
import Derived.Test.YtoekikeomgfaiaaOpT
namespace Go.Proofs.Ytoekikeomgfaiaa
open Go.RowKit
set_option maxHeartbeats 6400000 in
set_option maxRecDepth 20000 in
theorem lawPackTable_any (w : World) {B0 : Nat} {v0a : Value} {t0 : Tbl} (hh0 : RdT w B0 v0a t0) :
    Calls Try.prog 9 #[v0a] w fun e w' => e = .returned (.bool true) ∧ Below w.heap.size w w' := by
  have hh0' := hh0.top
  obtain ⟨D0, m0, d0, E0, e0, f0, P0, p0, q0, rfl, hC0, hR0, hE0⟩ := hh0.top
  have H := Owns.nil w
  replace H := H.box [.slice D0 m0 d0, .slice E0 e0 f0, .slice P0 p0 q0] 46
  obtain ⟨a0b0, a0b1, a0b2, -, -, -⟩ := H.box3 0 rfl
  go_enter Try.func9, Try.ntmps9
  go_wp2_with fail
  refine (szTable_any _ _ _ t0 _ (hh0'.below H.below) (by omega) (by omega)).mono ?_
  rintro e w1 ⟨rfl, hb⟩
  replace H := H.call hb
  clear a0b0 a0b1 a0b2 hb
  by_cases c2 : (tblBulk t0 : Int) ≤ 1048576
  rotate_left
  · have HB := H.below
    rw [szI_no (by omega)]
    go_wp2
    go_ret
    exact ⟨rfl, HB⟩
  rw [szI_yes c2]
  have hs : Small t0.store := by unfold Small; unfold tblBulk at c2; omega
  have hs1 : t0.store.cells.length ≤ 1048576 := by have := len_le_bulk t0.store.cells; unfold tblBulk at c2; omega
  have hs2 : t0.store.roots.length ≤ 1048576 := by unfold tblBulk at c2; omega
  have HS3 : Hid (∀ c ∈ t0.store.cells, c.refs.length ≤ 1048576) := Go.Lib.hid fun c hc => by have := refs_le_bulk hc; unfold tblBulk at c2; omega
  have hs4 : t0.hands.length ≤ 1048576 := by unfold tblBulk at c2; omega
  have hkA0 : kTbl t0 ≤ 8388608 := by have := kAdd_bulk t0.store.cells; unfold tblBulk at c2; unfold kTbl kHeap; omega
  obtain ⟨a0b0, a0b1, a0b2, -, -, -⟩ := H.box3 0 rfl
  go_wp2_with fail
  refine (toTable_any _ _ _ t0 (hh0'.below H.below) hs hs4).mono ?_
  rintro e w2 ⟨vr0, rfl, ho⟩
  obtain ⟨rr0, hb⟩ := ho.rd
  replace H := H.call hb
  clear a0b0 a0b1 a0b2 hb ho
  go_wp2_with fail
  refine (specPackTable_any _ _ _ t0 rr0 hs1 hs2 HS3.out hs4).mono ?_
  rintro e w3 ⟨cvW0, rvsW0, rvW0, hvW0, rfl, K⟩
  replace K := H.merge K
  simp only [List.cons_append, List.nil_append] at K
  obtain ⟨G0, HG0⟩ : ∃ T, Hid (mPackT t0 = T) := ⟨_, Go.Lib.hid rfl⟩
  obtain ⟨G1, HG1⟩ : ∃ T, Hid (mPackN t0 = T) := ⟨_, Go.Lib.hid rfl⟩
  have hk0 : kTbl G0 ≤ 16777216 := by rw [← HG0.out]; exact mPackT_len t0
  rw [HG0.out] at K
  rw [HG1.out]
  obtain ⟨FW0_0, fW0_0, rfl, -⟩ := K.formC 0 rfl
  obtain ⟨FW0_1, fW0_1, rfl, -⟩ := K.formI 1 rfl
  obtain ⟨FW0_2, fW0_2, rfl, -⟩ := K.formI 2 rfl
  clear H
  have H := K.box [.slice FW0_0 G0.store.cells.length fW0_0, .slice FW0_1 G0.store.roots.length fW0_1, .slice FW0_2 G0.hands.length fW0_2] 50
  clear K
  clear rr0
  obtain ⟨a0b0, a0b1, a0b2, -, -, -⟩ := H.box3 4 rfl
  go_wp2_with fail
  refine (toTable_any _ _ _ t0 (hh0'.below H.below) hs hs4).mono ?_
  rintro e w4 ⟨vX0, rfl, ho⟩
  obtain ⟨cvX0, rvsX0, rvX0, hvX0, rfl, K⟩ := H.mergeT ho
  obtain ⟨FX0_0, fX0_0, rfl, -⟩ := K.formC 0 rfl
  obtain ⟨FX0_1, fX0_1, rfl, -⟩ := K.formI 1 rfl
  obtain ⟨FX0_2, fX0_2, rfl, -⟩ := K.formI 2 rfl
  clear a0b0 a0b1 a0b2 H ho
  have H := K.box [.slice FX0_0 t0.store.cells.length fX0_0, .slice FX0_1 t0.store.roots.length fX0_1, .slice FX0_2 t0.hands.length fX0_2] 50
  clear K
  obtain ⟨X0b0, X0b1, X0b2, -, -, -⟩ := H.box3 0 rfl
  go_wp2_with fail
  refine (implPackTable_any _ _ _ t0 (H.rdT 1 2 3 rfl rfl rfl) hs1 hs2 HS3.out hs4).mono ?_
  rintro e w5 ⟨cvg0, rvsg0, rvg0, hvg0, rfl, K⟩
  replace K := H.merge K
  simp only [List.cons_append, List.nil_append] at K
  rw [HG0.out] at K
  rw [HG1.out]
  obtain ⟨Fg0_0, fg0_0, rfl, -⟩ := K.formC 0 rfl
  obtain ⟨Fg0_1, fg0_1, rfl, -⟩ := K.formI 1 rfl
  obtain ⟨Fg0_2, fg0_2, rfl, -⟩ := K.formI 2 rfl
  clear X0b0 X0b1 X0b2 H
  have H := K.box [.slice Fg0_0 G0.store.cells.length fg0_0, .slice Fg0_1 G0.store.roots.length fg0_1, .slice Fg0_2 G0.hands.length fg0_2] 50
  clear K
  obtain ⟨g0b0, g0b1, g0b2, -, -, -⟩ := H.box3 0 rfl
  obtain ⟨W0b0, W0b1, W0b2, -, -, -⟩ := H.box3 8 rfl
  go_wp2_with fail
  refine (eqTable_any _ _ _ _ _ G0 (H.rdT 1 2 3 rfl rfl rfl) (H.rdT 9 10 11 rfl rfl rfl)).mono ?_
  rintro e w6 ⟨rfl, hb⟩
  replace H := H.call hb
  clear g0b0 g0b1 g0b2 W0b0 W0b1 W0b2 hb
  have HX := H.drew
  obtain ⟨b0, b1, b2, -, -, -⟩ := HX.box3 4 rfl
  obtain ⟨a0, a1, a2, -, -, -⟩ := HX.box3 12 rfl
  have HX0 := Go.Lib.hid H
  clear H
  go_wp2_with fail
  refine wp_region_tree (fun w' => (w'.cell? ⟨w4.heap.size, 0, none⟩ = some (.slice FX0_0 t0.store.cells.length fX0_0) ∧ w'.cell? ⟨w4.heap.size, 1, none⟩ = some (.slice FX0_1 t0.store.roots.length fX0_1) ∧ w'.cell? ⟨w4.heap.size, 2, none⟩ = some (.slice FX0_2 t0.hands.length fX0_2)) ∧ w'.cell? ⟨w.heap.size, 0, none⟩ = some (.slice D0 m0 d0) ∧ w'.cell? ⟨w.heap.size, 1, none⟩ = some (.slice E0 e0 f0) ∧ w'.cell? ⟨w.heap.size, 2, none⟩ = some (.slice P0 p0 q0)) 5 [] (.take 0 (.take 1 (.alt 2 (.alt 3 (.take 4 (.done)) (.stop)) (.stop)))) (by kernel_rfl) (by kernel_rfl) (by kernel_rfl) (⟨⟨b0, b1, b2⟩, a0, a1, a2⟩) ?_
  simp only [fillT, List.getElem?_cons_zero, List.getElem?_cons_succ, Nat.reduceBEq]
  repeat (first
    | (with_reducible refine po_take (v := ?_) ?_ (fun w' hS' => ?_) ?_
       rotate_left
       · (go_simp; done)
       · ((try dsimp only at hS'); go_simp; try with_reducible rfl)
       simp only [Act.put, List.setIfInBounds_toArray, List.set_cons_zero, List.set_cons_succ])
    | (with_reducible refine po_skip ?_ ?_
       · (go_simp; done)
       simp only [Act.put, List.setIfInBounds_toArray, List.set_cons_zero, List.set_cons_succ]))
  with_reducible refine po_run ?_ (fun K hK => ?_) ?_
  · (go_simp; done)
  rotate_left
  · exact po_stop
  go_simp
  refine (toTable_any _ _ _ t0 (hh0'.below HX.below) hs hs4).mono ?_
  rintro e wp ⟨vp, rfl, ho⟩
  obtain ⟨rp, hb⟩ := ho.rd
  replace HX := HX.call hb
  refine hK.out _ _ (.inr (⟨⟨keept b0 hb, keept b1 hb, keept b2 hb⟩, keept a0 hb, keept a1 hb, keept a2 hb⟩)) ?_
  clear hK K
  replace b0 := keept b0 hb
  replace b1 := keept b1 hb
  replace b2 := keept b2 hb
  replace a0 := keept a0 hb
  replace a1 := keept a1 hb
  replace a2 := keept a2 hb
  with_reducible refine po_run ?_ (fun K hK => ?_) ?_
  · (go_simp; done)
  rotate_left
  · exact po_stop
  go_simp
  refine (eqTable_any _ _ _ _ _ t0 (HX.rdT 5 6 7 rfl rfl rfl) rp).mono ?_
  rintro e wq ⟨rfl, hb3⟩
  replace HX := HX.call hb3
  refine hK.out _ _ (.inr (⟨⟨keept b0 hb3, keept b1 hb3, keept b2 hb3⟩, keept a0 hb3, keept a1 hb3, keept a2 hb3⟩)) ?_
  clear hK K
  repeat (first
    | (with_reducible refine po_take (v := ?_) ?_ (fun w' hS' => ?_) ?_
       rotate_left
       · (go_simp; done)
       · ((try dsimp only at hS'); go_simp; try with_reducible rfl)
       simp only [Act.put, List.setIfInBounds_toArray, List.set_cons_zero, List.set_cons_succ])
    | (with_reducible refine po_skip ?_ ?_
       · (go_simp; done)
       simp only [Act.put, List.setIfInBounds_toArray, List.set_cons_zero, List.set_cons_succ]))
  refine po_done ?_
  have H := HX
  clear HX HX0 hb hb3 ho rp b0 b1 b2 a0 a1 a2
  obtain ⟨X0b0, X0b1, X0b2, -, -, -⟩ := H.box3 4 rfl
  have HG : OwT _ w.heap.size w (.agg #[.slice FX0_0 t0.store.cells.length fX0_0, .slice FX0_1 t0.store.roots.length fX0_1, .slice FX0_2 t0.hands.length fX0_2]) t0 _ := ⟨_, _, _, _, rfl, (H.places [5, 6, 7, 0, 1, 2, 3, 4, 8, 9, 10, 11, 12] (by decide) (by simp))⟩
  go_wp2_with fail
  refine (markTable_own HG (1) (by omega) (by omega)).mono ?_
  rintro e w7 ⟨rfl, hG⟩
  obtain ⟨cvM, rvsM, rvM, hvM, eM, K⟩ := hG
  simp only [Value.agg.injEq, Array.mk.injEq, List.cons.injEq, and_true] at eM
  obtain ⟨rfl, rfl, rfl⟩ := eM
  clear X0b0 X0b1 X0b2 HG H
  have H := K
  clear K
  simp only [List.filterMap_cons, List.filterMap_nil, List.getElem?_cons_zero, List.getElem?_cons_succ] at H
  obtain ⟨g0b0, g0b1, g0b2, -, -, -⟩ := H.box3 3 rfl
  obtain ⟨W0b0, W0b1, W0b2, -, -, -⟩ := H.box3 8 rfl
  go_wp2_with fail
  refine (eqTable_any _ _ _ _ _ G0 (H.rdT 4 5 6 rfl rfl rfl) (H.rdT 9 10 11 rfl rfl rfl)).mono ?_
  rintro e w8 ⟨rfl, hb⟩
  replace H := H.call hb
  clear g0b0 g0b1 g0b2 W0b0 W0b1 W0b2 hb
  obtain ⟨g0b0, g0b1, g0b2, -, -, -⟩ := H.box3 3 rfl
  have HG : OwT _ w.heap.size w (.agg #[.slice Fg0_0 G0.store.cells.length fg0_0, .slice Fg0_1 G0.store.roots.length fg0_1, .slice Fg0_2 G0.hands.length fg0_2]) G0 _ := ⟨_, _, _, _, rfl, (H.places [4, 5, 6, 0, 1, 2, 3, 7, 8, 9, 10, 11, 12] (by decide) (by simp))⟩
  go_wp2_with fail
  refine (markTable_own HG (1) (by omega) (by omega)).mono ?_
  rintro e w9 ⟨rfl, hG⟩
  obtain ⟨cvM, rvsM, rvM, hvM, eM, K⟩ := hG
  simp only [Value.agg.injEq, Array.mk.injEq, List.cons.injEq, and_true] at eM
  obtain ⟨rfl, rfl, rfl⟩ := eM
  clear g0b0 g0b1 g0b2 HG H
  have H := K
  clear K
  simp only [List.filterMap_cons, List.filterMap_nil, List.getElem?_cons_zero, List.getElem?_cons_succ] at H
  obtain ⟨g0b0, g0b1, g0b2, -, -, -⟩ := H.box3 6 rfl
  go_wp2_with fail
  refine (heldTable_any _ _ _ G0 (1) (H.rdT 0 1 2 rfl rfl rfl) (by omega) (by omega)).mono ?_
  rintro e w10 ⟨rfl, hb⟩
  replace H := H.call hb
  clear g0b0 g0b1 g0b2 hb
  obtain ⟨a0b0, a0b1, a0b2, -, -, -⟩ := H.box3 12 rfl
  go_wp2_with fail
  refine (toTable_any _ _ _ t0 (hh0'.below H.below) hs hs4).mono ?_
  rintro e w11 ⟨vs0, rfl, ho⟩
  obtain ⟨rs0, hb⟩ := ho.rd
  replace H := H.call hb
  clear a0b0 a0b1 a0b2 hb ho
  go_wp2_with fail
  refine (implPackTable_any _ _ _ t0 rs0 hs1 hs2 HS3.out hs4).mono ?_
  rintro e w12 ⟨cvh0, rvsh0, rvh0, hvh0, rfl, K⟩
  replace K := H.merge K
  simp only [List.cons_append, List.nil_append] at K
  rw [HG0.out] at K
  rw [HG1.out]
  obtain ⟨Fh0_0, fh0_0, rfl, -⟩ := K.formC 0 rfl
  obtain ⟨Fh0_1, fh0_1, rfl, -⟩ := K.formI 1 rfl
  obtain ⟨Fh0_2, fh0_2, rfl, -⟩ := K.formI 2 rfl
  clear H
  have H := K.box [.slice Fh0_0 G0.store.cells.length fh0_0, .slice Fh0_1 G0.store.roots.length fh0_1, .slice Fh0_2 G0.hands.length fh0_2] 50
  clear K
  clear rs0
  obtain ⟨h0b0, h0b1, h0b2, -, -, -⟩ := H.box3 0 rfl
  obtain ⟨W0b0, W0b1, W0b2, -, -, -⟩ := H.box3 12 rfl
  go_wp2_with fail
  refine (eqTable_any _ _ _ _ _ G0 (H.rdT 1 2 3 rfl rfl rfl) (H.rdT 13 14 15 rfl rfl rfl)).mono ?_
  rintro e w13 ⟨rfl, hb⟩
  replace H := H.call hb
  clear h0b0 h0b1 h0b2 W0b0 W0b1 W0b2 hb
  obtain ⟨g0b0, g0b1, g0b2, -, -, -⟩ := H.box3 10 rfl
  go_wp2_with fail
  refine (heldTable_any _ _ _ G0 (1) (H.rdT 4 5 6 rfl rfl rfl) (by omega) (by omega)).mono ?_
  rintro e w14 ⟨rfl, hb⟩
  replace H := H.call hb
  clear g0b0 g0b1 g0b2 hb
  have HB := H.below
  clear H
  go_wp2
  go_ret
  exact ⟨rfl, HB⟩
end Go.Proofs.Ytoekikeomgfaiaa
