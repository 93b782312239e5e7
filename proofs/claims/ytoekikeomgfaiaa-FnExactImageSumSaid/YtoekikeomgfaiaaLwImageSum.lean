/- The law FnExactImageSum returns true for every list that can be read, and leaves it as it was. -/
import Derived.Test.YtoekikeomgfaiaaIm
import Derived.Test.YtoekikeomgfaiaaSz
import Derived.Test.YtoekikeomgfaiaaTo
import Derived.Test.YtoekikeomgfaiaaEq
import Derived.Test.YtoekikeomgfaiaaOpen
namespace Go.Proofs.Ytoekikeomgfaiaa
open Go.RowKit
set_option maxHeartbeats 1600000 in
theorem lawImageSum_any (w : World) {C0 : Nat} {A0 : Option Addr} {n0 c0 : Nat} {xs0 : List Int} (hr0 : RdI w C0 A0 n0 c0 xs0) (hI0 : ∀ x ∈ xs0, I64 x) :
    Calls Try.prog 5 #[.slice A0 n0 c0] w fun e w' => e = .returned (.bool true) ∧ Below w.heap.size w w' := by
  have hr0 := hr0.top
  have l10 := RdI.le1 hr0; have l20 := RdI.le2 hr0
  have H := Owns.nil w
  by_cases s0 : 1048576 < n0
  · have HB := H.below
    go_enter Try.func5, Try.ntmps5
    go_wp2
    go_ret
    exact ⟨rfl, HB⟩
  go_enter Try.func5, Try.ntmps5
  go_wp2_with fail
  refine (toInts_any _ _ A0 n0 c0 xs0 (hr0.below H.below) (by omega)).mono ?_
  rintro e w1 ⟨v1, rfl, ho, hb⟩
  obtain ⟨A1, k1, rfl, r1⟩ := ho.form
  replace H := H.call hb
  clear hb ho
  go_wp2_with fail
  refine (specImageSum_any _ _ _ _ _ xs0 r1 hI0 (by omega)).mono ?_
  rintro e w2 ⟨rfl, hb⟩
  replace H := H.call hb
  clear hb r1
  go_wp2_with fail
  refine (toInts_any _ _ A0 n0 c0 xs0 (hr0.below H.below) (by omega)).mono ?_
  rintro e w3 ⟨v1, rfl, ho, hb⟩
  obtain ⟨A2, k2, rfl, r2⟩ := ho.form
  replace H := H.call hb
  clear hb ho
  go_wp2_with fail
  refine (implImageSum_any _ _ _ _ _ xs0 r2 hI0).mono ?_
  rintro e w4 ⟨rfl, hb⟩
  replace H := H.call hb
  replace r2 := (r2.below hb).top
  clear hb
  generalize mImageSum xs0 = G
  go_wp2_with fail
  refine (toInts_any _ _ A0 n0 c0 xs0 (hr0.below H.below) (by omega)).mono ?_
  rintro e w5 ⟨v1, rfl, ho, hb⟩
  obtain ⟨A3, k3, rfl, r3⟩ := ho.form
  replace H := H.call hb
  replace r2 := (r2.below hb).top
  clear hb ho
  go_wp2_with fail
  refine (eqInts_any _ _ _ _ _ _ _ _ _ xs0 r2 r3).mono ?_
  rintro e w6 ⟨rfl, hb⟩
  replace H := H.call hb
  have HB := H.below
  clear H hb r2 r3
  go_wp2
  go_ret
  exact ⟨rfl, HB⟩
end Go.Proofs.Ytoekikeomgfaiaa
