/- The law FnExactTableOf returns true for every heap that can be read, and leaves it as it was. The result is a table. -/
import Derived.Test.YteflbjchnfebaaaTo3
import Derived.Test.YteflbjchnfebaaaMg
import Derived.Test.YteflbjchnfebaaaOpen
import Derived.Test.YteflbjchnfebaaaTre
namespace Go.Proofs.Yteflbjchnfebaaa
open Go.RowKit
set_option maxHeartbeats 3200000 in
set_option maxRecDepth 20000 in
theorem lawTableOf_any (w : World) {B0 : Nat} {v0a : Value} {h0 : Hp} (hh0 : RdH w B0 v0a h0) :
    Calls Try.prog 13 #[v0a] w fun e w' => e = .returned (.bool true) ∧ Below w.heap.size w w' := by
  have hh' := hh0.top
  obtain ⟨D, m, d, D', m', d', rfl, hC, hR⟩ := hh0.top
  have H := (Owns.nil w).box [.slice D m d, .slice D' m' d'] 25
  obtain ⟨a0, a1, -, -⟩ := H.box2 0 rfl
  go_enter Try.func13, Try.ntmps13
  go_wp2_with fail
  refine (szHeap_any _ _ _ h0 _ (hh'.below H.below) (by omega) (by omega)).mono ?_
  rintro e w1 ⟨rfl, hb⟩
  replace H := H.call hb
  clear hb a0 a1
  obtain ⟨a0, a1, -, -⟩ := H.box2 0 rfl
  by_cases c2 : ((cellsBulk h0.cells + h0.roots.length : Nat) : Int) ≤ 1048576
  rotate_left
  · have HB := H.below
    rw [szI_no (by omega)]
    go_wp2
    go_ret
    exact ⟨rfl, HB⟩
  rw [szI_yes c2]
  have hs : Small h0 := by unfold Small; omega
  have hs1 : h0.cells.length ≤ 1048576 := by have := len_le_bulk h0.cells; omega
  have hs2 : h0.roots.length ≤ 1048576 := by omega
  have hs3 : ∀ c ∈ h0.cells, c.refs.length ≤ 1048576 := fun c hc => by have := refs_le_bulk hc; omega
  have HS3 := Go.Lib.hid hs3
  have hkH : kHeap h0 ≤ 4194304 := by have := kAdd_bulk h0.cells; unfold kHeap; omega
  have hkT : kTbl (mTableOf h0) ≤ 16777216 := mTableOf_len h0 hkH hs1
  clear hs3
  go_wp2_with fail
  refine (toHeap_any _ _ _ h0 (hh'.below H.below) hs).mono ?_
  rintro e w2 ⟨v1, rfl, ho, hb⟩
  replace H := H.call hb
  have r1 := ho.rd
  clear hb ho a0 a1
  obtain ⟨a0, a1, -, -⟩ := H.box2 0 rfl
  go_wp2_with fail
  refine (specTableOf_any _ _ _ h0 r1 hs1 hs2 HS3.out).mono ?_
  rintro e w3 ⟨v2, rfl, ho⟩
  obtain ⟨T, HT⟩ : ∃ T, Hid (mTableOf h0 = T) := ⟨_, Go.Lib.hid rfl⟩
  rw [HT.out] at ho hkT
  obtain ⟨cvW, rvsW, rvW, hvW, rfl, K⟩ := H.mergeT ho
  obtain ⟨C1, d1, rfl, -⟩ := K.formC 0 rfl
  obtain ⟨C2, d2, rfl, -⟩ := K.formI 1 rfl
  obtain ⟨C3, d3, rfl, -⟩ := K.formI 2 rfl
  clear H
  have H := K.box [.slice C1 T.store.cells.length d1, .slice C2 T.store.roots.length d2, .slice C3 T.hands.length d3] 57
  clear K ho a0 a1
  obtain ⟨a0, a1, -, -⟩ := H.box2 4 rfl
  go_wp2_with fail
  refine (toHeap_any _ _ _ h0 (hh'.below H.below) hs).mono ?_
  rintro e w4 ⟨v3, rfl, ho, hb⟩
  obtain ⟨cvX, rvsX, rvX, rfl, K⟩ := H.madeH ho hb
  obtain ⟨X1, x1, rfl, -⟩ := K.formC 0 rfl
  obtain ⟨X2, x2, rfl, -⟩ := K.formI 1 rfl
  clear H
  have H := K.box [.slice X1 h0.cells.length x1, .slice X2 h0.roots.length x2] 30
  clear K ho hb a0 a1
  obtain ⟨b0, b1, -, -⟩ := H.box2 0 rfl
  go_wp2_with fail
  refine (implTableOf_any _ _ _ h0 (H.rdH 1 2 rfl rfl) hs1 hs2 HS3.out).mono ?_
  rintro e w5 ⟨v4, rfl, ho⟩
  rw [HT.out] at ho
  obtain ⟨cvG, rvsG, rvG, hvG, rfl, K⟩ := H.mergeT ho
  obtain ⟨G1, g1, rfl, -⟩ := K.formC 0 rfl
  obtain ⟨G2, g2, rfl, -⟩ := K.formI 1 rfl
  obtain ⟨G3, g3, rfl, -⟩ := K.formI 2 rfl
  clear H
  have H := K.box [.slice G1 T.store.cells.length g1, .slice G2 T.store.roots.length g2, .slice G3 T.hands.length g3] 57
  clear K ho b0 b1
  obtain ⟨b0, b1, b2, -, -, -⟩ := H.box3 0 rfl
  obtain ⟨c0, c1, c2', -, -, -⟩ := H.box3 7 rfl
  go_wp2_with fail
  refine (eqTable_any _ _ _ _ _ T (H.rdT 1 2 3 rfl rfl rfl) (H.rdT 8 9 10 rfl rfl rfl)).mono ?_
  rintro e w6 ⟨rfl, hb⟩
  replace H := H.call hb
  clear hb b0 b1 b2 c0 c1 c2'
  have HX := H.drew
  obtain ⟨b0, b1, -, -⟩ := HX.box2 4 rfl
  obtain ⟨a0, a1, -, -⟩ := HX.box2 11 rfl
  clear H
  go_wp2_with fail
  refine wp_region_tree (fun w' => (w'.cell? ⟨w4.heap.size, 0, none⟩ = some (.slice X1 h0.cells.length x1) ∧ w'.cell? ⟨w4.heap.size, 1, none⟩ = some (.slice X2 h0.roots.length x2)) ∧ w'.cell? ⟨w.heap.size, 0, none⟩ = some (.slice D m d) ∧ w'.cell? ⟨w.heap.size, 1, none⟩ = some (.slice D' m' d')) 5 [] (.take 0 (.take 1 (.alt 2 (.alt 3 (.take 4 (.done)) (.stop)) (.stop)))) (by kernel_rfl) (by kernel_rfl) (by kernel_rfl) (⟨⟨b0, b1⟩, a0, a1⟩) ?_
  simp only [fillT, List.getElem?_cons_zero, List.getElem?_cons_succ, Nat.reduceBEq]
  repeat (first
    | (with_reducible refine po_take (v := ?_) ?_ (fun w' hS' => ?_) ?_
       rotate_left
       · (go_simp; done)
       · ((try dsimp only at hS'); go_simp; try with_reducible rfl)
       simp only [Act.put, List.setIfInBounds_toArray, List.set_cons_zero, List.set_cons_succ])
    | (with_reducible refine po_skip ?_ ?_
       · (go_simp; done)
       simp only [Act.put, List.setIfInBounds_toArray, List.set_cons_zero, List.set_cons_succ]))
  with_reducible refine po_run ?_ (fun K hK => ?_) ?_
  · (go_simp; done)
  rotate_left
  · exact po_stop
  go_simp
  refine (toHeap_any _ _ _ h0 (hh'.below HX.below) hs).mono ?_
  rintro e w7 ⟨v5, rfl, ho, hb⟩
  have r5 := ho.rd
  replace HX := HX.call hb
  refine hK.out _ _ (.inr (⟨⟨keept b0 hb, keept b1 hb⟩, keept a0 hb, keept a1 hb⟩)) ?_
  clear hK K
  replace b0 := keept b0 hb
  replace b1 := keept b1 hb
  replace a0 := keept a0 hb
  replace a1 := keept a1 hb
  with_reducible refine po_run ?_ (fun K hK => ?_) ?_
  · (go_simp; done)
  rotate_left
  · exact po_stop
  go_simp
  refine (eqHeap_any _ _ _ _ _ h0 (HX.rdH 5 6 rfl rfl) r5).mono ?_
  rintro e w8 ⟨rfl, hb3⟩
  replace HX := HX.call hb3
  refine hK.out _ _ (.inr (⟨⟨keept b0 hb3, keept b1 hb3⟩, keept a0 hb3, keept a1 hb3⟩)) ?_
  clear hK K
  repeat (first
    | (with_reducible refine po_take (v := ?_) ?_ (fun w' hS' => ?_) ?_
       rotate_left
       · (go_simp; done)
       · ((try dsimp only at hS'); go_simp; try with_reducible rfl)
       simp only [Act.put, List.setIfInBounds_toArray, List.set_cons_zero, List.set_cons_succ])
    | (with_reducible refine po_skip ?_ ?_
       · (go_simp; done)
       simp only [Act.put, List.setIfInBounds_toArray, List.set_cons_zero, List.set_cons_succ]))
  refine po_done ?_
  have H := HX
  clear HX hb hb3 ho r5 b0 b1 a0 a1
  obtain ⟨b0, b1, -, -⟩ := H.box2 4 rfl
  go_wp2_with fail
  refine (markHeap_own H 5 6 (by decide) rfl rfl 1 (by omega) (by show (1 : Int) + kHeap h0 ≤ _; omega)).mono ?_
  rintro e w9 ⟨rfl, K⟩
  simp only [List.set_cons_zero, List.set_cons_succ] at K
  clear H b0 b1
  obtain ⟨b0, b1, b2, -, -, -⟩ := K.box3 0 rfl
  obtain ⟨c0, c1, c2', -, -, -⟩ := K.box3 7 rfl
  have hkh : Hid (kHeap ⟨h0.cells, h0.roots⟩ = kHeap h0) := Go.Lib.hid rfl
  rw [hkh.out]
  go_wp2_with fail
  refine (eqTable_any _ _ _ _ _ T (K.rdT 1 2 3 rfl rfl rfl) (K.rdT 8 9 10 rfl rfl rfl)).mono ?_
  rintro e w10 ⟨rfl, hb⟩
  replace K := K.call hb
  have HG : OwT w10 w.heap.size w (.agg #[.slice G1 T.store.cells.length g1, .slice G2 T.store.roots.length g2, .slice G3 T.hands.length g3]) T [.box w5.heap.size [.slice G1 T.store.cells.length g1, .slice G2 T.store.roots.length g2, .slice G3 T.hands.length g3] 57, .box w3.heap.size [.slice C1 T.store.cells.length d1, .slice C2 T.store.roots.length d2, .slice C3 T.hands.length d3] 57, .cells (.slice C1 T.store.cells.length d1) rvsW T.store.cells, .ints (.slice C2 T.store.roots.length d2) T.store.roots, .ints (.slice C3 T.hands.length d3) T.hands, .box w.heap.size [.slice D m d, .slice D' m' d'] 25] := ⟨_, rvsG, _, _, rfl, K.order [1, 2, 3, 0, 7, 8, 9, 10, 11] (by decide) rfl⟩
  clear hb b0 b1 b2 c0 c1 c2'
  obtain ⟨b0, b1, b2, -, -, -⟩ := K.box3 0 rfl
  clear K
  go_wp2_with fail
  refine (markTable_own HG 1 (by omega) (by omega)).mono ?_
  rintro e w11 ⟨rfl, hG⟩
  obtain ⟨cvM, rvsM, rvM, hvM, eM, H⟩ := hG
  simp only [Value.agg.injEq, Array.mk.injEq, List.cons.injEq, and_true] at eM
  obtain ⟨rfl, rfl, rfl⟩ := eM
  clear HG b0 b1 b2
  obtain ⟨b0, b1, b2, -, -, -⟩ := H.box3 3 rfl
  go_wp2_with fail
  refine (heldTable_any _ _ _ T 1 (H.rdT 0 1 2 rfl rfl rfl) (by omega) (by omega)).mono ?_
  rintro e w12 ⟨rfl, hb⟩
  replace H := H.call hb
  clear hb b0 b1 b2
  obtain ⟨a0, a1, -, -⟩ := H.box2 8 rfl
  go_wp2_with fail
  refine (toHeap_any _ _ _ h0 (hh'.below H.below) hs).mono ?_
  rintro e w13 ⟨v6, rfl, ho, hb⟩
  have r6 := ho.rd
  replace H := H.call hb
  clear hb ho a0 a1
  go_wp2_with fail
  refine (implTableOf_any _ _ _ h0 r6 hs1 hs2 HS3.out).mono ?_
  rintro e w14 ⟨v7, rfl, ho⟩
  rw [HT.out] at ho
  obtain ⟨cvH, rvsH, rvH, hvH, rfl, K⟩ := H.mergeT ho
  obtain ⟨Q1, q1, rfl, -⟩ := K.formC 0 rfl
  obtain ⟨Q2, q2, rfl, -⟩ := K.formI 1 rfl
  obtain ⟨Q3, q3, rfl, -⟩ := K.formI 2 rfl
  clear H ho r6
  have H := K.box [.slice Q1 T.store.cells.length q1, .slice Q2 T.store.roots.length q2, .slice Q3 T.hands.length q3] 57
  clear K
  obtain ⟨b0, b1, b2, -, -, -⟩ := H.box3 0 rfl
  obtain ⟨c0, c1, c2', -, -, -⟩ := H.box3 8 rfl
  go_wp2_with fail
  refine (eqTable_any _ _ _ _ _ T (H.rdT 1 2 3 rfl rfl rfl) (H.rdT 9 10 11 rfl rfl rfl)).mono ?_
  rintro e w15 ⟨rfl, hb⟩
  replace H := H.call hb
  clear hb b0 b1 b2 c0 c1 c2'
  obtain ⟨b0, b1, b2, -, -, -⟩ := H.box3 7 rfl
  go_wp2_with fail
  refine (heldTable_any _ _ _ T 1 (H.rdT 4 5 6 rfl rfl rfl) (by omega) (by omega)).mono ?_
  rintro e w16 ⟨rfl, hb⟩
  have HB := (H.call hb).below
  clear hb b0 b1 b2 H
  go_wp2
  go_ret
  exact ⟨rfl, HB⟩
end Go.Proofs.Yteflbjchnfebaaa
