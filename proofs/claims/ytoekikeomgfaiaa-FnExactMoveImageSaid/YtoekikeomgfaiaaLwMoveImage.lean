/- The law FnExactMoveImage returns true for every argument that can be read. Printed by gen3.py. -/
import Derived.Test.YtoekikeomgfaiaaIm
import Derived.Test.YtoekikeomgfaiaaMh
import Derived.Test.YtoekikeomgfaiaaOpen
import Derived.Test.YtoekikeomgfaiaaTre
import Derived.Test.YtoekikeomgfaiaaSz
import Derived.Test.YtoekikeomgfaiaaTo
import Derived.Test.YtoekikeomgfaiaaEq
import Derived.Test.YtoekikeomgfaiaaHd
namespace Go.Proofs.Ytoekikeomgfaiaa
open Go.RowKit
set_option maxHeartbeats 6400000 in
set_option maxRecDepth 20000 in
theorem lawMoveImage_any (w : World) {C0 : Nat} {A0 : Option Addr} {n0 c0 : Nat} {xs0 : List Int} (hr0 : RdI w C0 A0 n0 c0 xs0) (hI0 : ∀ x ∈ xs0, I64 x) {x1 : Int} (_hx1 : I64 x1) :
    Calls Try.prog 6 #[.slice A0 n0 c0, .int .i64 x1] w fun e w' => e = .returned (.bool true) ∧ Below w.heap.size w w' := by
  have hr0 := hr0.top
  have l10 := RdI.le1 hr0; have l20 := RdI.le2 hr0
  have H := Owns.nil w
  by_cases s0 : 1048576 < n0
  · have HB := H.below
    go_enter Try.func6, Try.ntmps6
    go_wp2
    go_ret
    exact ⟨rfl, HB⟩
  have hkA0 : xs0.length ≤ 1048576 := by omega
  go_enter Try.func6, Try.ntmps6
  go_wp2_with fail
  refine (toInts_any _ _ A0 n0 c0 xs0 (hr0.below H.below) (by omega)).mono ?_
  rintro e w1 ⟨vr0, rfl, ho, hb⟩
  obtain ⟨Ar0, kr0, rfl, rr0⟩ := ho.form
  replace H := H.call hb
  clear hb ho
  go_wp2_with fail
  refine ((specMoveImage_any _ _ _ _ _ xs0 x1 rr0 hI0 (by omega) _hx1).mono fun _ _ h => MadeI.p h).mono ?_
  rintro e w2 ⟨lvW0, rfl, K⟩
  replace K := H.merge K
  simp only [List.cons_append, List.nil_append] at K
  obtain ⟨G0, HG0⟩ : ∃ T, Hid (mMoveImage xs0 x1 = T) := ⟨_, Go.Lib.hid rfl⟩
  have hk0 : G0.length ≤ 16777216 := by rw [← HG0.out]; exact mMoveImage_len xs0 x1
  rw [HG0.out] at K
  obtain ⟨FW0_0, fW0_0, rfl, -⟩ := K.formI 0 rfl
  clear H
  have H := K
  clear K
  clear rr0
  go_wp2_with fail
  refine (toInts_any _ _ A0 n0 c0 xs0 (hr0.below H.below) (by omega)).mono ?_
  rintro e w3 ⟨vX0, rfl, ho, hb⟩
  have K := H.madeI ho hb
  obtain ⟨FX0_0, fX0_0, rfl, -⟩ := K.formI 0 rfl
  clear H ho hb
  have H := K
  clear K
  go_wp2_with fail
  refine ((implMoveImage_any _ _ _ _ _ xs0 x1 (H.owI 0 rfl).rdI hI0 _hx1).mono fun _ _ h => MadeI.p h).mono ?_
  rintro e w4 ⟨lvg0, rfl, K⟩
  replace K := H.merge K
  simp only [List.cons_append, List.nil_append] at K
  rw [HG0.out] at K
  obtain ⟨Fg0_0, fg0_0, rfl, -⟩ := K.formI 0 rfl
  clear H
  have H := K
  clear K
  go_wp2_with fail
  refine (eqInts_any _ _ _ _ _ _ _ _ _ G0 (H.owI 0 rfl).rdI (H.owI 2 rfl).rdI).mono ?_
  rintro e w5 ⟨rfl, hb⟩
  replace H := H.call hb
  clear hb
  go_wp2_with fail
  refine (toInts_any _ _ A0 n0 c0 xs0 (hr0.below H.below) (by omega)).mono ?_
  rintro e w6 ⟨vy0, rfl, ho, hb⟩
  obtain ⟨Ay0, ky0, rfl, ry0⟩ := ho.form
  replace H := H.call hb
  clear hb ho
  go_wp2_with fail
  refine (eqInts_any _ _ _ _ _ _ _ _ _ xs0 (H.owI 1 rfl).rdI ry0).mono ?_
  rintro e w7 ⟨rfl, hb⟩
  replace H := H.call hb
  clear hb ry0
  go_wp2_with fail
  refine (H.markI 1 rfl (1) (by omega) (by omega)).mono ?_
  rintro e w8 ⟨rfl, K⟩
  simp only [List.set_cons_zero, List.set_cons_succ] at K
  clear H
  have H := K
  clear K
  go_wp2_with fail
  refine (eqInts_any _ _ _ _ _ _ _ _ _ G0 (H.owI 0 rfl).rdI (H.owI 2 rfl).rdI).mono ?_
  rintro e w9 ⟨rfl, hb⟩
  replace H := H.call hb
  clear hb
  go_wp2_with fail
  refine (H.markI 0 rfl (1) (by omega) (by omega)).mono ?_
  rintro e w10 ⟨rfl, K⟩
  simp only [List.set_cons_zero] at K
  clear H
  have H := K
  clear K
  go_wp2_with fail
  refine (heldInts_any _ _ _ _ _ (1) G0.length (H.owI 0 rfl).rdI (by omega) (by omega)).mono ?_
  rintro e w11 ⟨rfl, hw⟩
  obtain rfl := hw
  go_wp2_with fail
  refine (toInts_any _ _ A0 n0 c0 xs0 (hr0.below H.below) (by omega)).mono ?_
  rintro e w12 ⟨vs0, rfl, ho, hb⟩
  obtain ⟨As0, ks0, rfl, rs0⟩ := ho.form
  replace H := H.call hb
  clear hb ho
  go_wp2_with fail
  refine ((implMoveImage_any _ _ _ _ _ xs0 x1 rs0 hI0 _hx1).mono fun _ _ h => MadeI.p h).mono ?_
  rintro e w13 ⟨lvh0, rfl, K⟩
  replace K := H.merge K
  simp only [List.cons_append, List.nil_append] at K
  rw [HG0.out] at K
  obtain ⟨Fh0_0, fh0_0, rfl, -⟩ := K.formI 0 rfl
  clear H
  have H := K
  clear K
  clear rs0
  go_wp2_with fail
  refine (eqInts_any _ _ _ _ _ _ _ _ _ G0 (H.owI 0 rfl).rdI (H.owI 3 rfl).rdI).mono ?_
  rintro e w14 ⟨rfl, hb⟩
  replace H := H.call hb
  clear hb
  go_wp2_with fail
  refine (heldInts_any _ _ _ _ _ (1) G0.length (H.owI 1 rfl).rdI (by omega) (by omega)).mono ?_
  rintro e w15 ⟨rfl, hw⟩
  obtain rfl := hw
  have HB := H.below
  clear H
  go_wp2
  go_ret
  exact ⟨rfl, HB⟩
end Go.Proofs.Ytoekikeomgfaiaa
