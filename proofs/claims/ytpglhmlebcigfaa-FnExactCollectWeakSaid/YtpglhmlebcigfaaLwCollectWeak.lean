/- The law FnExactCollectWeak returns true for every argument that can be read. Printed by gen3.py. -/
import Derived.Test.YtpglhmlebcigfaaKc
import Derived.Test.YtpglhmlebcigfaaKcL
import Derived.Test.YtpglhmlebcigfaaZ0
import Derived.Test.YtpglhmlebcigfaaSz
import Derived.Test.YtpglhmlebcigfaaEq
namespace Go.Proofs.Ytpglhmlebcigfaa
open Go.RowKit
set_option maxHeartbeats 6400000 in
set_option maxRecDepth 20000 in
theorem lawCollectWeak_any (w : World) {B0 : Nat} {v0a : Value} {h0 : Hp} (hh0 : RdH w B0 v0a h0) {C1 : Nat} {A1 : Option Addr} {n1 c1 : Nat} {xs1 : List Int} (hr1 : RdI w C1 A1 n1 c1 xs1) :
    Calls Try.prog 6 #[v0a, .slice A1 n1 c1] w fun e w' => e = .returned (.bool true) ∧ Below w.heap.size w w' := by
  have hh0' := hh0.top
  obtain ⟨D0, m0, d0, E0, e0, f0, rfl, hC0, hR0⟩ := hh0.top
  have hr1 := hr1.top
  have l11 := RdI.le1 hr1; have l21 := RdI.le2 hr1
  have H := Owns.nil w
  replace H := H.box [.slice D0 m0 d0, .slice E0 e0 f0] 46
  by_cases s1 : 1048576 < n1
  · have HB := H.below
    go_enter Try.func6, Try.ntmps6
    go_wp2
    go_ret
    exact ⟨rfl, HB⟩
  obtain ⟨a0b0, a0b1, -, -⟩ := H.box2 0 rfl
  go_enter Try.func6, Try.ntmps6
  go_wp2_with fail
  refine (szHeap_any _ _ _ h0 _ (hh0'.below H.below) (by omega) (by omega)).mono ?_
  rintro e w1 ⟨rfl, hb⟩
  replace H := H.call hb
  clear a0b0 a0b1 hb
  by_cases c2 : ((cellsBulk h0.cells + h0.roots.length : Nat) : Int) ≤ 1048576
  rotate_left
  · have HB := H.below
    rw [szI_no (by omega)]
    go_wp2
    go_ret
    exact ⟨rfl, HB⟩
  rw [szI_yes c2]
  have hs : Small h0 := by unfold Small; omega
  have hs1 : h0.cells.length ≤ 1048576 := by have := len_le_bulk h0.cells; omega
  have hs2 : h0.roots.length ≤ 1048576 := by omega
  have HS3 : Hid (∀ c ∈ h0.cells, c.refs.length ≤ 1048576) := Go.Lib.hid fun c hc => by have := refs_le_bulk hc; omega
  have hkA0 : kHeap h0 ≤ 4194304 := by have := kAdd_bulk h0.cells; unfold kHeap; omega
  have hkA1 : xs1.length ≤ 1048576 := by omega
  obtain ⟨a0b0, a0b1, -, -⟩ := H.box2 0 rfl
  go_wp2_with fail
  refine (toHeap_any _ _ _ h0 (hh0'.below H.below) hs).mono ?_
  rintro e w2 ⟨vr0, rfl, ho, hb⟩
  have rr0 := ho.rd
  replace H := H.call hb
  clear a0b0 a0b1 hb ho
  go_wp2_with fail
  refine (toInts_any _ _ A1 n1 c1 xs1 (hr1.below H.below) (by omega)).mono ?_
  rintro e w3 ⟨vr1, rfl, ho, hb⟩
  obtain ⟨Ar1, kr1, rfl, rr1⟩ := ho.form
  replace rr0 := rr0.below hb
  replace H := H.call hb
  clear hb ho
  go_wp2_with fail
  refine (specCollectWeak_any _ _ _ _ h0 _ _ _ xs1 rr0 rr1).mono ?_
  rintro e w4 ⟨cvW0, rvsW0, rvW0, lvW1, rfl, K⟩
  replace K := H.merge K
  simp only [List.cons_append, List.nil_append] at K
  obtain ⟨G0, HG0⟩ : ∃ T, Hid (mCwH h0 xs1 = T) := ⟨_, Go.Lib.hid rfl⟩
  obtain ⟨G1, HG1⟩ : ∃ T, Hid (mClearWeak h0 xs1 = T) := ⟨_, Go.Lib.hid rfl⟩
  have hk0 : kHeap G0 ≤ 16777216 := by rw [← HG0.out]; exact mCwH_len h0 xs1
  have hk1 : G1.length ≤ 16777216 := by rw [← HG1.out]; have := mClearWeak_len h0 xs1; omega
  rw [HG0.out] at K
  rw [HG1.out] at K
  obtain ⟨FW0_0, fW0_0, rfl, -⟩ := K.formC 0 rfl
  obtain ⟨FW0_1, fW0_1, rfl, -⟩ := K.formI 1 rfl
  obtain ⟨FW1_0, fW1_0, rfl, -⟩ := K.formI 2 rfl
  clear H
  have H := K.box [.slice FW0_0 G0.cells.length fW0_0, .slice FW0_1 G0.roots.length fW0_1] 26
  clear K
  clear rr0 rr1
  obtain ⟨a0b0, a0b1, -, -⟩ := H.box2 4 rfl
  go_wp2_with fail
  refine (toHeap_any _ _ _ h0 (hh0'.below H.below) hs).mono ?_
  rintro e w5 ⟨vX0, rfl, ho, hb⟩
  obtain ⟨cvX0, rvsX0, rvX0, rfl, K⟩ := H.madeH ho hb
  obtain ⟨FX0_0, fX0_0, rfl, -⟩ := K.formC 0 rfl
  obtain ⟨FX0_1, fX0_1, rfl, -⟩ := K.formI 1 rfl
  clear a0b0 a0b1 H ho hb
  have H := K.box [.slice FX0_0 h0.cells.length fX0_0, .slice FX0_1 h0.roots.length fX0_1] 26
  clear K
  go_wp2_with fail
  refine (toInts_any _ _ A1 n1 c1 xs1 (hr1.below H.below) (by omega)).mono ?_
  rintro e w6 ⟨vX1, rfl, ho, hb⟩
  have K := H.madeI ho hb
  obtain ⟨FX1_0, fX1_0, rfl, -⟩ := K.formI 0 rfl
  clear H ho hb
  have H := K
  clear K
  obtain ⟨X0b0, X0b1, -, -⟩ := H.box2 1 rfl
  go_wp2_with fail
  refine (implCollectWeak_any _ _ _ _ h0 _ _ _ xs1 (H.rdH 2 3 rfl rfl) (H.owI 0 rfl).rdI).mono ?_
  rintro e w7 ⟨cvg0, rvsg0, rvg0, lvg1, rfl, K⟩
  replace K := H.merge K
  simp only [List.cons_append, List.nil_append] at K
  rw [HG0.out] at K
  rw [HG1.out] at K
  obtain ⟨Fg0_0, fg0_0, rfl, -⟩ := K.formC 0 rfl
  obtain ⟨Fg0_1, fg0_1, rfl, -⟩ := K.formI 1 rfl
  obtain ⟨Fg1_0, fg1_0, rfl, -⟩ := K.formI 2 rfl
  clear X0b0 X0b1 H
  have H := K.box [.slice Fg0_0 G0.cells.length fg0_0, .slice Fg0_1 G0.roots.length fg0_1] 26
  clear K
  obtain ⟨g0b0, g0b1, -, -⟩ := H.box2 0 rfl
  obtain ⟨W0b0, W0b1, -, -⟩ := H.box2 8 rfl
  go_wp2_with fail
  refine (eqHeap_any _ _ _ _ _ G0 (H.rdH 1 2 rfl rfl) (H.rdH 9 10 rfl rfl)).mono ?_
  rintro e w8 ⟨rfl, hb⟩
  replace H := H.call hb
  clear g0b0 g0b1 W0b0 W0b1 hb
  go_wp2_with fail
  refine (eqInts_any _ _ _ _ _ _ _ _ _ G1 (H.owI 3 rfl).rdI (H.owI 11 rfl).rdI).mono ?_
  rintro e w9 ⟨rfl, hb⟩
  replace H := H.call hb
  clear hb
  have HX := H.drew
  obtain ⟨b0, b1, -, -⟩ := HX.box2 5 rfl
  obtain ⟨a0, a1, -, -⟩ := HX.box2 12 rfl
  have HX0 := Go.Lib.hid H
  clear H
  go_wp2_with fail
  refine wp_region_tree (fun w' => (w'.cell? ⟨w5.heap.size, 0, none⟩ = some (.slice FX0_0 h0.cells.length fX0_0) ∧ w'.cell? ⟨w5.heap.size, 1, none⟩ = some (.slice FX0_1 h0.roots.length fX0_1)) ∧ w'.cell? ⟨w.heap.size, 0, none⟩ = some (.slice D0 m0 d0) ∧ w'.cell? ⟨w.heap.size, 1, none⟩ = some (.slice E0 e0 f0)) 5 [] (.take 0 (.take 1 (.alt 2 (.alt 3 (.take 4 (.done)) (.stop)) (.stop)))) (by kernel_rfl) (by kernel_rfl) (by kernel_rfl) (⟨⟨b0, b1⟩, a0, a1⟩) ?_
  simp only [fillT, List.getElem?_cons_zero, List.getElem?_cons_succ, Nat.reduceBEq]
  repeat (first
    | (with_reducible refine po_take (v := ?_) ?_ (fun w' hS' => ?_) ?_
       rotate_left
       · (go_simp; done)
       · ((try dsimp only at hS'); go_simp; try with_reducible rfl)
       simp only [Act.put, List.setIfInBounds_toArray, List.set_cons_zero, List.set_cons_succ])
    | (with_reducible refine po_skip ?_ ?_
       · (go_simp; done)
       simp only [Act.put, List.setIfInBounds_toArray, List.set_cons_zero, List.set_cons_succ]))
  with_reducible refine po_run ?_ (fun K hK => ?_) ?_
  · (go_simp; done)
  rotate_left
  · exact po_stop
  go_simp
  refine (toHeap_any _ _ _ h0 (hh0'.below HX.below) hs).mono ?_
  rintro e wp ⟨vp, rfl, ho, hb⟩
  have rp := ho.rd
  replace HX := HX.call hb
  refine hK.out _ _ (.inr (⟨⟨keept b0 hb, keept b1 hb⟩, keept a0 hb, keept a1 hb⟩)) ?_
  clear hK K
  replace b0 := keept b0 hb
  replace b1 := keept b1 hb
  replace a0 := keept a0 hb
  replace a1 := keept a1 hb
  with_reducible refine po_run ?_ (fun K hK => ?_) ?_
  · (go_simp; done)
  rotate_left
  · exact po_stop
  go_simp
  refine (eqHeap_any _ _ _ _ _ h0 (HX.rdH 6 7 rfl rfl) rp).mono ?_
  rintro e wq ⟨rfl, hb3⟩
  replace HX := HX.call hb3
  refine hK.out _ _ (.inr (⟨⟨keept b0 hb3, keept b1 hb3⟩, keept a0 hb3, keept a1 hb3⟩)) ?_
  clear hK K
  repeat (first
    | (with_reducible refine po_take (v := ?_) ?_ (fun w' hS' => ?_) ?_
       rotate_left
       · (go_simp; done)
       · ((try dsimp only at hS'); go_simp; try with_reducible rfl)
       simp only [Act.put, List.setIfInBounds_toArray, List.set_cons_zero, List.set_cons_succ])
    | (with_reducible refine po_skip ?_ ?_
       · (go_simp; done)
       simp only [Act.put, List.setIfInBounds_toArray, List.set_cons_zero, List.set_cons_succ]))
  refine po_done ?_
  have H := HX
  clear HX HX0 hb hb3 ho rp b0 b1 a0 a1
  go_wp2_with fail
  refine (toInts_any _ _ A1 n1 c1 xs1 (hr1.below H.below) (by omega)).mono ?_
  rintro e w10 ⟨vy1, rfl, ho, hb⟩
  obtain ⟨Ay1, ky1, rfl, ry1⟩ := ho.form
  replace H := H.call hb
  clear hb ho
  go_wp2_with fail
  refine (eqInts_any _ _ _ _ _ _ _ _ _ xs1 (H.owI 4 rfl).rdI ry1).mono ?_
  rintro e w11 ⟨rfl, hb⟩
  replace H := H.call hb
  clear hb ry1
  obtain ⟨X0b0, X0b1, -, -⟩ := H.box2 5 rfl
  go_wp2_with fail
  refine (markHeap_own H 6 7 (by decide) rfl rfl (1) (by omega) (by show (1 : Int) + kHeap h0 ≤ _; omega)).mono ?_
  rintro e w12 ⟨rfl, K⟩
  simp only [List.set_cons_zero, List.set_cons_succ] at K
  rw [show kHeap ⟨h0.cells, h0.roots⟩ = kHeap h0 from rfl]
  clear X0b0 X0b1 H
  have H := K
  clear K
  go_wp2_with fail
  refine (H.markI 4 rfl (1 + ((kHeap h0 : Nat) : Int)) (by omega) (by omega)).mono ?_
  rintro e w13 ⟨rfl, K⟩
  simp only [List.set_cons_zero, List.set_cons_succ] at K
  clear H
  have H := K
  clear K
  obtain ⟨g0b0, g0b1, -, -⟩ := H.box2 0 rfl
  obtain ⟨W0b0, W0b1, -, -⟩ := H.box2 8 rfl
  go_wp2_with fail
  refine (eqHeap_any _ _ _ _ _ G0 (H.rdH 1 2 rfl rfl) (H.rdH 9 10 rfl rfl)).mono ?_
  rintro e w14 ⟨rfl, hb⟩
  replace H := H.call hb
  clear g0b0 g0b1 W0b0 W0b1 hb
  go_wp2_with fail
  refine (eqInts_any _ _ _ _ _ _ _ _ _ G1 (H.owI 3 rfl).rdI (H.owI 11 rfl).rdI).mono ?_
  rintro e w15 ⟨rfl, hb⟩
  replace H := H.call hb
  clear hb
  obtain ⟨g0b0, g0b1, -, -⟩ := H.box2 0 rfl
  go_wp2_with fail
  refine (markHeap_own H 1 2 (by decide) rfl rfl (1) (by omega) (by show (1 : Int) + kHeap G0 ≤ _; omega)).mono ?_
  rintro e w16 ⟨rfl, K⟩
  simp only [List.set_cons_zero, List.set_cons_succ] at K
  rw [show kHeap ⟨G0.cells, G0.roots⟩ = kHeap G0 from rfl]
  clear g0b0 g0b1 H
  have H := K
  clear K
  go_wp2_with fail
  refine (H.markI 3 rfl (1 + ((kHeap G0 : Nat) : Int)) (by omega) (by omega)).mono ?_
  rintro e w17 ⟨rfl, K⟩
  simp only [List.set_cons_zero, List.set_cons_succ] at K
  clear H
  have H := K
  clear K
  obtain ⟨g0b0, g0b1, -, -⟩ := H.box2 0 rfl
  go_wp2_with fail
  refine (heldHeap_any _ _ _ G0 (1) (H.rdH 1 2 rfl rfl) (by omega) (by omega)).mono ?_
  rintro e w18 ⟨rfl, hb⟩
  replace H := H.call hb
  clear g0b0 g0b1 hb
  go_wp2_with fail
  refine (heldInts_any _ _ _ _ _ (1 + ((kHeap G0 : Nat) : Int)) G1.length (H.owI 3 rfl).rdI (by omega) (by omega)).mono ?_
  rintro e w19 ⟨rfl, hw⟩
  obtain rfl := hw
  obtain ⟨a0b0, a0b1, -, -⟩ := H.box2 12 rfl
  go_wp2_with fail
  refine (toHeap_any _ _ _ h0 (hh0'.below H.below) hs).mono ?_
  rintro e w20 ⟨vs0, rfl, ho, hb⟩
  have rs0 := ho.rd
  replace H := H.call hb
  clear a0b0 a0b1 hb ho
  go_wp2_with fail
  refine (toInts_any _ _ A1 n1 c1 xs1 (hr1.below H.below) (by omega)).mono ?_
  rintro e w21 ⟨vs1, rfl, ho, hb⟩
  obtain ⟨As1, ks1, rfl, rs1⟩ := ho.form
  replace rs0 := rs0.below hb
  replace H := H.call hb
  clear hb ho
  go_wp2_with fail
  refine (implCollectWeak_any _ _ _ _ h0 _ _ _ xs1 rs0 rs1).mono ?_
  rintro e w22 ⟨cvh0, rvsh0, rvh0, lvh1, rfl, K⟩
  replace K := H.merge K
  simp only [List.cons_append, List.nil_append] at K
  rw [HG0.out] at K
  rw [HG1.out] at K
  obtain ⟨Fh0_0, fh0_0, rfl, -⟩ := K.formC 0 rfl
  obtain ⟨Fh0_1, fh0_1, rfl, -⟩ := K.formI 1 rfl
  obtain ⟨Fh1_0, fh1_0, rfl, -⟩ := K.formI 2 rfl
  clear H
  have H := K.box [.slice Fh0_0 G0.cells.length fh0_0, .slice Fh0_1 G0.roots.length fh0_1] 26
  clear K
  clear rs0 rs1
  obtain ⟨h0b0, h0b1, -, -⟩ := H.box2 0 rfl
  obtain ⟨W0b0, W0b1, -, -⟩ := H.box2 12 rfl
  go_wp2_with fail
  refine (eqHeap_any _ _ _ _ _ G0 (H.rdH 1 2 rfl rfl) (H.rdH 13 14 rfl rfl)).mono ?_
  rintro e w23 ⟨rfl, hb⟩
  replace H := H.call hb
  clear h0b0 h0b1 W0b0 W0b1 hb
  go_wp2_with fail
  refine (eqInts_any _ _ _ _ _ _ _ _ _ G1 (H.owI 3 rfl).rdI (H.owI 15 rfl).rdI).mono ?_
  rintro e w24 ⟨rfl, hb⟩
  replace H := H.call hb
  clear hb
  obtain ⟨g0b0, g0b1, -, -⟩ := H.box2 4 rfl
  go_wp2_with fail
  refine (heldHeap_any _ _ _ G0 (1) (H.rdH 5 6 rfl rfl) (by omega) (by omega)).mono ?_
  rintro e w25 ⟨rfl, hb⟩
  replace H := H.call hb
  clear g0b0 g0b1 hb
  go_wp2_with fail
  refine (heldInts_any _ _ _ _ _ (1 + ((kHeap G0 : Nat) : Int)) G1.length (H.owI 7 rfl).rdI (by omega) (by omega)).mono ?_
  rintro e w26 ⟨rfl, hw⟩
  obtain rfl := hw
  have HB := H.below
  clear H
  go_wp2
  go_ret
  exact ⟨rfl, HB⟩
end Go.Proofs.Ytpglhmlebcigfaa
