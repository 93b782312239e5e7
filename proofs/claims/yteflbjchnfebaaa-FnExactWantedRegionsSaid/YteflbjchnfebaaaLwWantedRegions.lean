/- The law FnExactWantedRegions returns true for every argument that can be read, and leaves them as they were. Printed by gen2.py. -/
import Derived.Test.YteflbjchnfebaaaWrS
import Derived.Test.YteflbjchnfebaaaMk
import Derived.Test.YteflbjchnfebaaaSz
import Derived.Test.YteflbjchnfebaaaTo
import Derived.Test.YteflbjchnfebaaaEq
import Derived.Test.YteflbjchnfebaaaOpen
import Derived.Deep.RegionHeld3
namespace Go.Proofs.Yteflbjchnfebaaa
open Go.RowKit
set_option maxHeartbeats 3200000 in
theorem lawWantedRegions_any (w : World) {B0 : Nat} {v0a : Value} {h0 : Hp} (hh0 : RdH w B0 v0a h0) {C1 : Nat} {A1 : Option Addr} {n1 c1 : Nat} {xs1 : List Int} (hr1 : RdI w C1 A1 n1 c1 xs1) :
    Calls Try.prog 12 #[v0a, .slice A1 n1 c1] w fun e w' => e = .returned (.bool true) ∧ Below w.heap.size w w' := by
  have hh0' := hh0.top
  obtain ⟨D, m, d, D', m', d', rfl, hC, hR⟩ := hh0.top
  clear hh0
  have hr1 := hr1.top
  have l11 := RdI.le1 hr1; have l21 := RdI.le2 hr1
  by_cases c1a : 1048576 < n1
  · go_enter Try.func12, Try.ntmps12
    go_wp2
    go_ret
    exact ⟨rfl, below_alloc _ _⟩
  go_enter Try.func12, Try.ntmps12
  go_wp2_with fail
  refine (szHeap_any _ _ _ h0 _ (hh0'.below (below_alloc _ _)) (by omega) (by omega)).mono ?_
  rintro e w0 ⟨rfl, hb⟩
  obtain ⟨a0, a1, hbw, hz⟩ := box2 (hb.mono (by simp))
  clear hb
  by_cases c2 : ((cellsBulk h0.cells + h0.roots.length : Nat) : Int) ≤ 1048576
  rotate_left
  · rw [szI_no (by omega)]
    go_wp2
    go_ret
    exact ⟨rfl, hbw⟩
  rw [szI_yes c2]
  have hs : Small h0 := by unfold Small; omega
  have hkH : kHeap h0 ≤ 4194304 := by have := kAdd_bulk h0.cells; unfold kHeap; omega
  go_wp2_with fail
  refine (toHeap_any _ _ _ h0 (hh0'.below hbw) hs).mono ?_
  rintro e w1 ⟨vr0, rfl, hor0, hb1⟩
  replace a0 := keept a0 hb1
  replace a1 := keept a1 hb1
  have hzw1 := hb1.size
  replace hbw := hbw.trans (hb1.mono (by omega))
  clear hb1
  go_wp2_with fail
  refine (toInts_any _ _ A1 n1 c1 xs1 (hr1.below hbw) (by omega)).mono ?_
  rintro e w2 ⟨vr1, rfl, hor1, hb2⟩
  replace a0 := keept a0 hb2
  replace a1 := keept a1 hb2
  replace hor0 := hor0.below hb2 (by omega)
  have hzw2 := hb2.size
  replace hbw := hbw.trans (hb2.mono (by omega))
  clear hb2
  obtain ⟨Ar1, kr1, rfl, _⟩ := hor1.form
  go_wp2_with fail
  refine (specWantedRegions_any _ _ _ _ h0 _ _ _ xs1 hor0.rd hor1.rdI).mono ?_
  rintro e w3 ⟨vW, rfl, hoW, hb3⟩
  clear hor0
  clear hor1
  replace a0 := keept a0 hb3
  replace a1 := keept a1 hb3
  have hzw3 := hb3.size
  replace hbw := hbw.trans (hb3.mono (by omega))
  clear hb3
  obtain ⟨AW, kW, rfl, _⟩ := hoW.form
  go_wp2_with fail
  refine (toHeap_any _ _ _ h0 (hh0'.below hbw) hs).mono ?_
  rintro e w4 ⟨vx, rfl, hox, hb4⟩
  replace a0 := keept a0 hb4
  replace a1 := keept a1 hb4
  replace hoW := hoW.below hb4 (by omega)
  have hzw4 := hb4.size
  replace hbw := hbw.trans (hb4.mono (by omega))
  clear hb4
  obtain ⟨E, q, f, E', q', f', rfl, -, -⟩ := hox.rd
  go_wp2_with fail
  obtain ⟨b0, b1, _, _⟩ := blk2 (heap1 w4 (.cells #[.slice E q f, .slice E' q' f'] 30))
  have hbx := below_alloc w4 (.cells #[.slice E q f, .slice E' q' f'] 30)
  replace hox := hox.below hbx (Nat.le_refl _)
  replace a0 := keept a0 hbx
  replace a1 := keept a1 hbx
  replace hoW := hoW.below hbx (by omega)
  replace hbw := hbw.trans (hbx.mono (by omega))
  clear hbx
  go_wp2_with fail
  refine (toInts_any _ _ A1 n1 c1 xs1 (hr1.below hbw) (by omega)).mono ?_
  rintro e w5 ⟨v, rfl, hoy1, hb5⟩
  replace a0 := keept a0 hb5
  replace a1 := keept a1 hb5
  replace b0 := keept b0 hb5
  replace b1 := keept b1 hb5
  replace hoW := hoW.below hb5 (by first | omega | (simp; omega) | (simp; done))
  replace hox := hox.below hb5 (by first | omega | (simp; omega) | (simp; done))
  have hzw5 := hb5.size
  simp only [World.size_alloc] at hzw5
  replace hbw := hbw.trans (hb5.mono (by first | omega | (simp; omega) | (simp; done)))
  simp only [World.size_alloc] at hoy1
  clear hb5
  obtain ⟨Ay1, ky1, rfl, _⟩ := hoy1.form
  go_wp2_with fail
  refine (implWantedRegions_any _ _ _ _ h0 _ _ _ xs1 hox.rd hoy1.rdI).mono ?_
  rintro e w6 ⟨v, rfl, hoG, hb6⟩
  replace a0 := keept a0 hb6
  replace a1 := keept a1 hb6
  replace b0 := keept b0 hb6
  replace b1 := keept b1 hb6
  replace hoW := hoW.below hb6 (by omega)
  replace hox := hox.below hb6 (by omega)
  replace hoy1 := hoy1.below hb6 (by omega)
  have hzw6 := hb6.size
  replace hbw := hbw.trans (hb6.mono (by omega))
  clear hb6
  have hlen := mWantedRegions_len h0 xs1
  obtain ⟨AG, kG, rfl, _⟩ := hoG.form
  go_wp2_with fail
  refine (eqInts_any _ _ _ _ _ _ _ _ _ _ hoG.rdI hoW.rdI).mono ?_
  rintro e w7 ⟨rfl, hb7⟩
  replace a0 := keept a0 hb7
  replace a1 := keept a1 hb7
  replace b0 := keept b0 hb7
  replace b1 := keept b1 hb7
  replace hoW := hoW.below hb7 (by omega)
  replace hox := hox.below hb7 (by omega)
  replace hoy1 := hoy1.below hb7 (by omega)
  replace hoG := hoG.below hb7 (by omega)
  have hzw7 := hb7.size
  replace hbw := hbw.trans (hb7.mono (by omega))
  clear hb7
  have hod := hox.below (Below.refl w7.heap.size w7).drew (by omega)
  go_wp2_with fail
  go_region_held3 (fun w' => w'.cell? ⟨w.heap.size, 0, none⟩ = some (.slice D m d) ∧ w'.cell? ⟨w.heap.size, 1, none⟩ = some (.slice D' m' d') ∧
      w'.cell? ⟨w4.heap.size, 0, none⟩ = some (.slice E q f) ∧ w'.cell? ⟨w4.heap.size, 1, none⟩ = some (.slice E' q' f'))
    (first | go_keep | (exact ⟨keepd a0 hp, keepd a1 hp, keepd b0 hp, keepd b1 hp⟩) | (exact ⟨keept (keepd a0 hp) hq, keept (keepd a1 hp) hq, keept (keepd b0 hp) hq, keept (keepd b1 hp) hq⟩))
    (first
      | (go_at_call 17; refine (toHeap_any _ _ _ h0 (hh0'.below hbw.drew) hs).mono ?_; rintro e wp ⟨vp, rfl, hop, hp⟩)
      | (go_at_call 20; refine (eqHeap_any _ _ _ _ _ h0 ((hod.below hp (by simp; omega)).rd) hop.rd).mono ?_; rintro e wq ⟨rfl, hq⟩))
  have hbR := (Below.refl w7.heap.size w7).drew.trans ((hp.trans (hq.mono hp.size)).mono (by simp))
  clear hod hop hp hq
  replace a0 := keept a0 hbR
  replace a1 := keept a1 hbR
  replace b0 := keept b0 hbR
  replace b1 := keept b1 hbR
  replace hoW := hoW.below hbR (by omega)
  replace hox := hox.below hbR (by omega)
  replace hoy1 := hoy1.below hbR (by omega)
  replace hoG := hoG.below hbR (by omega)
  have hzwq := hbR.size
  replace hbw := hbw.trans (hbR.mono (by omega))
  clear hbR
  go_wp2_with fail
  refine (toInts_any _ _ A1 n1 c1 xs1 (hr1.below hbw) (by omega)).mono ?_
  rintro e w8 ⟨v, rfl, hoz, hb8⟩
  replace a0 := keept a0 hb8
  replace a1 := keept a1 hb8
  replace b0 := keept b0 hb8
  replace b1 := keept b1 hb8
  replace hoW := hoW.below hb8 (by omega)
  replace hox := hox.below hb8 (by omega)
  replace hoy1 := hoy1.below hb8 (by omega)
  replace hoG := hoG.below hb8 (by omega)
  have hzw8 := hb8.size
  replace hbw := hbw.trans (hb8.mono (by omega))
  clear hb8
  obtain ⟨Az1, kz1, rfl, _⟩ := hoz.form
  go_wp2_with fail
  refine (eqInts_any _ _ _ _ _ _ _ _ _ _ hoy1.rdI hoz.rdI).mono ?_
  rintro e w9 ⟨rfl, hb9⟩
  replace a0 := keept a0 hb9
  replace a1 := keept a1 hb9
  replace b0 := keept b0 hb9
  replace b1 := keept b1 hb9
  replace hoW := hoW.below hb9 (by omega)
  replace hox := hox.below hb9 (by omega)
  replace hoy1 := hoy1.below hb9 (by omega)
  replace hoG := hoG.below hb9 (by omega)
  have hzw9 := hb9.size
  replace hbw := hbw.trans (hb9.mono (by omega))
  clear hb9
  clear hoz
  go_wp2_with fail
  refine (markHeap_any _ _ _ _ h0 (1) hox (by omega) (by omega) (by omega)).mono ?_
  rintro e w10 ⟨rfl, -, hO⟩
  clear b0 b1 hox
  replace a0 := keepo a0 hO (by show w.heap.size < _; omega) (by show w.heap.size < _; omega)
  replace a1 := keepo a1 hO (by show w.heap.size < _; omega) (by show w.heap.size < _; omega)
  replace hoW := hoW.only hO (by omega)
  replace hoy1 := hoy1.only hO (by omega)
  replace hoG := hoG.only hO (by omega)
  replace hbw := hbw.trans ((hO.below (by omega)).mono (by omega))
  have hzw10 := hO.size
  clear hO
  go_wp2_with fail
  refine (markInts_any _ _ _ _ xs1 (1 + (kHeap h0 : Nat)) hoy1 (by omega) (by omega)).mono ?_
  rintro e w11 ⟨rfl, -, hg⟩
  have hO := Only.grownI hoy1 hg
  clear hg hoy1
  replace a0 := keepo a0 hO (by show w.heap.size < _; omega) (by show w.heap.size < _; omega)
  replace a1 := keepo a1 hO (by show w.heap.size < _; omega) (by show w.heap.size < _; omega)
  replace hoW := hoW.only hO (by omega)
  replace hoG := hoG.only hO (by omega)
  replace hbw := hbw.trans ((hO.below (by omega)).mono (by omega))
  have hzw11 := hO.size
  clear hO
  go_wp2_with fail
  refine (eqInts_any _ _ _ _ _ _ _ _ _ _ hoG.rdI hoW.rdI).mono ?_
  rintro e w12 ⟨rfl, hb12⟩
  replace a0 := keept a0 hb12
  replace a1 := keept a1 hb12
  replace hoW := hoW.below hb12 (by omega)
  replace hoG := hoG.below hb12 (by omega)
  have hzw12 := hb12.size
  replace hbw := hbw.trans (hb12.mono (by omega))
  clear hb12
  go_wp2_with fail
  refine (markInts_any _ _ _ _ _ 1 hoG (by omega) (by omega)).mono ?_
  rintro e w13 ⟨rfl, hoM, hg⟩
  have hO := Only.grownI hoG hg
  clear hg hoG
  replace a0 := keepo a0 hO (by show w.heap.size < _; omega) (by show w.heap.size < _; omega)
  replace a1 := keepo a1 hO (by show w.heap.size < _; omega) (by show w.heap.size < _; omega)
  replace hoW := hoW.only hO (by omega)
  replace hbw := hbw.trans ((hO.below (by omega)).mono (by omega))
  have hzw13 := hO.size
  clear hO
  go_wp2_with fail
  refine (heldInts_any _ _ _ _ _ 1 _ hoM.rdI (by omega) (by omega)).mono ?_
  rintro e wh ⟨rfl, rfl⟩
  go_wp2_with fail
  refine (toHeap_any _ _ _ h0 (hh0'.below hbw) hs).mono ?_
  rintro e w14 ⟨vs0, rfl, hos0, hb14⟩
  replace a0 := keept a0 hb14
  replace a1 := keept a1 hb14
  replace hoW := hoW.below hb14 (by omega)
  replace hoM := hoM.below hb14 (by omega)
  have hzw14 := hb14.size
  replace hbw := hbw.trans (hb14.mono (by omega))
  clear hb14
  go_wp2_with fail
  refine (toInts_any _ _ A1 n1 c1 xs1 (hr1.below hbw) (by omega)).mono ?_
  rintro e w15 ⟨vs1, rfl, hos1, hb15⟩
  replace a0 := keept a0 hb15
  replace a1 := keept a1 hb15
  replace hoW := hoW.below hb15 (by omega)
  replace hoM := hoM.below hb15 (by omega)
  replace hos0 := hos0.below hb15 (by omega)
  have hzw15 := hb15.size
  replace hbw := hbw.trans (hb15.mono (by omega))
  clear hb15
  obtain ⟨As1, ks1, rfl, _⟩ := hos1.form
  go_wp2_with fail
  refine (implWantedRegions_any _ _ _ _ h0 _ _ _ xs1 hos0.rd hos1.rdI).mono ?_
  rintro e w16 ⟨v, rfl, hoH, hb16⟩
  clear hos0
  clear hos1
  replace a0 := keept a0 hb16
  replace a1 := keept a1 hb16
  replace hoW := hoW.below hb16 (by omega)
  replace hoM := hoM.below hb16 (by omega)
  have hzw16 := hb16.size
  replace hbw := hbw.trans (hb16.mono (by omega))
  clear hb16
  obtain ⟨AH, kH, rfl, _⟩ := hoH.form
  go_wp2_with fail
  refine (eqInts_any _ _ _ _ _ _ _ _ _ _ hoH.rdI hoW.rdI).mono ?_
  rintro e w17 ⟨rfl, hb17⟩
  replace a0 := keept a0 hb17
  replace a1 := keept a1 hb17
  replace hoW := hoW.below hb17 (by omega)
  replace hoM := hoM.below hb17 (by omega)
  replace hoH := hoH.below hb17 (by omega)
  have hzw17 := hb17.size
  replace hbw := hbw.trans (hb17.mono (by omega))
  clear hb17
  go_wp2_with fail
  refine (heldInts_any _ _ _ _ _ 1 _ hoM.rdI (by omega) (by omega)).mono ?_
  rintro e wh ⟨rfl, rfl⟩
  go_wp2
  go_ret
  exact ⟨rfl, hbw⟩
end Go.Proofs.Yteflbjchnfebaaa
