/- The law FnExactLoadImage returns true for every argument that can be read. Printed by gen3.py. -/
import Derived.Test.YtoekikeomgfaiaaLdS
import Derived.Test.YtoekikeomgfaiaaLdL
import Derived.Test.YtoekikeomgfaiaaMh
import Derived.Test.YtoekikeomgfaiaaOpen
import Derived.Test.YtoekikeomgfaiaaTre
import Derived.Test.YtoekikeomgfaiaaSz
import Derived.Test.YtoekikeomgfaiaaTo
import Derived.Test.YtoekikeomgfaiaaEq
import Derived.Test.YtoekikeomgfaiaaHd
namespace Go.Proofs.Ytoekikeomgfaiaa
open Go.RowKit
set_option maxHeartbeats 6400000 in
set_option maxRecDepth 20000 in
theorem lawLoadImage_any (w : World) {C0 : Nat} {A0 : Option Addr} {n0 c0 : Nat} {xs0 : List Int} (hr0 : RdI w C0 A0 n0 c0 xs0) (hI0 : ∀ x ∈ xs0, I64 x) :
    Calls Try.prog 4 #[.slice A0 n0 c0] w fun e w' => e = .returned (.bool true) ∧ Below w.heap.size w w' := by
  have hr0 := hr0.top
  have l10 := RdI.le1 hr0; have l20 := RdI.le2 hr0
  have H := Owns.nil w
  by_cases s0 : 1048576 < n0
  · have HB := H.below
    go_enter Try.func4, Try.ntmps4
    go_wp2
    go_ret
    exact ⟨rfl, HB⟩
  have hkA0 : xs0.length ≤ 1048576 := by omega
  go_enter Try.func4, Try.ntmps4
  go_wp2_with fail
  refine (toInts_any _ _ A0 n0 c0 xs0 (hr0.below H.below) (by omega)).mono ?_
  rintro e w1 ⟨vr0, rfl, ho, hb⟩
  obtain ⟨Ar0, kr0, rfl, rr0⟩ := ho.form
  replace H := H.call hb
  clear hb ho
  go_wp2_with fail
  refine (specLoadImage_any _ _ _ _ _ xs0 rr0 hI0 (by omega)).mono ?_
  rintro e w2 ⟨cvW0, rvsW0, rvW0, rfl, K⟩
  replace K := H.merge K
  obtain ⟨G0, HG0⟩ : ∃ T, Hid (mLoadH xs0 = T) := ⟨_, Go.Lib.hid rfl⟩
  obtain ⟨G1, HG1⟩ : ∃ T, Hid (mLoadB xs0 = T) := ⟨_, Go.Lib.hid rfl⟩
  obtain ⟨G2, HG2⟩ : ∃ T, Hid (ldOk xs0 = T) := ⟨_, Go.Lib.hid rfl⟩
  have hk0 : kHeap G0 ≤ 16777216 := by rw [← HG0.out]; exact mLoadH_len xs0
  rw [HG0.out] at K
  rw [HG1.out]
  rw [HG2.out]
  obtain ⟨FW0_0, fW0_0, rfl, -⟩ := K.formC 0 rfl
  obtain ⟨FW0_1, fW0_1, rfl, -⟩ := K.formI 1 rfl
  clear H
  have H := K.box [.slice FW0_0 G0.cells.length fW0_0, .slice FW0_1 G0.roots.length fW0_1] 29
  clear K
  clear rr0
  go_wp2_with fail
  refine (toInts_any _ _ A0 n0 c0 xs0 (hr0.below H.below) (by omega)).mono ?_
  rintro e w3 ⟨vX0, rfl, ho, hb⟩
  have K := H.madeI ho hb
  obtain ⟨FX0_0, fX0_0, rfl, -⟩ := K.formI 0 rfl
  clear H ho hb
  have H := K
  clear K
  go_wp2_with fail
  refine (implLoadImage_any _ _ _ _ _ xs0 (H.owI 0 rfl).rdI hI0).mono ?_
  rintro e w4 ⟨cvg0, rvsg0, rvg0, rfl, K⟩
  replace K := H.merge K
  rw [HG0.out] at K
  rw [HG1.out]
  rw [HG2.out]
  obtain ⟨Fg0_0, fg0_0, rfl, -⟩ := K.formC 0 rfl
  obtain ⟨Fg0_1, fg0_1, rfl, -⟩ := K.formI 1 rfl
  clear H
  have H := K.box [.slice Fg0_0 G0.cells.length fg0_0, .slice Fg0_1 G0.roots.length fg0_1] 29
  clear K
  obtain ⟨g0b0, g0b1, -, -⟩ := H.box2 0 rfl
  obtain ⟨W0b0, W0b1, -, -⟩ := H.box2 4 rfl
  go_wp2_with fail
  refine (eqHeap_any _ _ _ _ _ G0 (H.rdH 1 2 rfl rfl) (H.rdH 5 6 rfl rfl)).mono ?_
  rintro e w5 ⟨rfl, hb⟩
  replace H := H.call hb
  clear g0b0 g0b1 W0b0 W0b1 hb
  go_wp2_with fail
  refine (toInts_any _ _ A0 n0 c0 xs0 (hr0.below H.below) (by omega)).mono ?_
  rintro e w6 ⟨vy0, rfl, ho, hb⟩
  obtain ⟨Ay0, ky0, rfl, ry0⟩ := ho.form
  replace H := H.call hb
  clear hb ho
  go_wp2_with fail
  refine (eqInts_any _ _ _ _ _ _ _ _ _ xs0 (H.owI 3 rfl).rdI ry0).mono ?_
  rintro e w7 ⟨rfl, hb⟩
  replace H := H.call hb
  clear hb ry0
  go_wp2_with fail
  refine (H.markI 3 rfl (1) (by omega) (by omega)).mono ?_
  rintro e w8 ⟨rfl, K⟩
  simp only [List.set_cons_succ] at K
  clear H
  have H := K
  clear K
  obtain ⟨g0b0, g0b1, -, -⟩ := H.box2 0 rfl
  obtain ⟨W0b0, W0b1, -, -⟩ := H.box2 4 rfl
  go_wp2_with fail
  refine (eqHeap_any _ _ _ _ _ G0 (H.rdH 1 2 rfl rfl) (H.rdH 5 6 rfl rfl)).mono ?_
  rintro e w9 ⟨rfl, hb⟩
  replace H := H.call hb
  clear g0b0 g0b1 W0b0 W0b1 hb
  obtain ⟨g0b0, g0b1, -, -⟩ := H.box2 0 rfl
  go_wp2_with fail
  refine (markHeap_own H 1 2 (by decide) rfl rfl (1) (by omega) (by show (1 : Int) + kHeap G0 ≤ _; omega)).mono ?_
  rintro e w10 ⟨rfl, K⟩
  simp only [List.set_cons_succ] at K
  rw [show kHeap ⟨G0.cells, G0.roots⟩ = kHeap G0 from rfl]
  clear g0b0 g0b1 H
  have H := K
  clear K
  obtain ⟨g0b0, g0b1, -, -⟩ := H.box2 0 rfl
  go_wp2_with fail
  refine (heldHeap_any _ _ _ G0 (1) (H.rdH 1 2 rfl rfl) (by omega) (by omega)).mono ?_
  rintro e w11 ⟨rfl, hb⟩
  replace H := H.call hb
  clear g0b0 g0b1 hb
  go_wp2_with fail
  refine (toInts_any _ _ A0 n0 c0 xs0 (hr0.below H.below) (by omega)).mono ?_
  rintro e w12 ⟨vs0, rfl, ho, hb⟩
  obtain ⟨As0, ks0, rfl, rs0⟩ := ho.form
  replace H := H.call hb
  clear hb ho
  go_wp2_with fail
  refine (implLoadImage_any _ _ _ _ _ xs0 rs0 hI0).mono ?_
  rintro e w13 ⟨cvh0, rvsh0, rvh0, rfl, K⟩
  replace K := H.merge K
  rw [HG0.out] at K
  rw [HG1.out]
  rw [HG2.out]
  obtain ⟨Fh0_0, fh0_0, rfl, -⟩ := K.formC 0 rfl
  obtain ⟨Fh0_1, fh0_1, rfl, -⟩ := K.formI 1 rfl
  clear H
  have H := K.box [.slice Fh0_0 G0.cells.length fh0_0, .slice Fh0_1 G0.roots.length fh0_1] 29
  clear K
  clear rs0
  obtain ⟨h0b0, h0b1, -, -⟩ := H.box2 0 rfl
  obtain ⟨W0b0, W0b1, -, -⟩ := H.box2 7 rfl
  go_wp2_with fail
  refine (eqHeap_any _ _ _ _ _ G0 (H.rdH 1 2 rfl rfl) (H.rdH 8 9 rfl rfl)).mono ?_
  rintro e w14 ⟨rfl, hb⟩
  replace H := H.call hb
  clear h0b0 h0b1 W0b0 W0b1 hb
  obtain ⟨g0b0, g0b1, -, -⟩ := H.box2 3 rfl
  go_wp2_with fail
  refine (heldHeap_any _ _ _ G0 (1) (H.rdH 4 5 rfl rfl) (by omega) (by omega)).mono ?_
  rintro e w15 ⟨rfl, hb⟩
  replace H := H.call hb
  clear g0b0 g0b1 hb
  have HB := H.below
  clear H
  go_wp2
  go_ret
  exact ⟨rfl, HB⟩
end Go.Proofs.Ytoekikeomgfaiaa
