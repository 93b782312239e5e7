/- The law FnExactSaveImage returns true for every argument that can be read, and leaves them as they were. Printed by gen2.py. -/
import Derived.Test.YteflbjchnfebaaaSv
import Derived.Test.YteflbjchnfebaaaMk
import Derived.Test.YteflbjchnfebaaaSz
import Derived.Test.YteflbjchnfebaaaTo
import Derived.Test.YteflbjchnfebaaaEq
import Derived.Test.YteflbjchnfebaaaOpen
import Derived.Deep.RegionHeld3
namespace Go.Proofs.Yteflbjchnfebaaa
open Go.RowKit
set_option maxHeartbeats 3200000 in
theorem lawSaveImage_any (w : World) {B0 : Nat} {v0a : Value} {h0 : Hp} (hh0 : RdH w B0 v0a h0) {x1 : Int} (hx1 : I64 x1) :
    Calls Try.prog 7 #[v0a, .int .i64 x1] w fun e w' => e = .returned (.bool true) ∧ Below w.heap.size w w' := by
  have hh0' := hh0.top
  obtain ⟨D, m, d, D', m', d', rfl, hC, hR⟩ := hh0.top
  clear hh0
  go_enter Try.func7, Try.ntmps7
  go_wp2_with fail
  refine (szHeap_any _ _ _ h0 _ (hh0'.below (below_alloc _ _)) (by omega) (by omega)).mono ?_
  rintro e w0 ⟨rfl, hb⟩
  obtain ⟨a0, a1, hbw, hz⟩ := box2 (hb.mono (by simp))
  clear hb
  by_cases c2 : ((cellsBulk h0.cells + h0.roots.length : Nat) : Int) ≤ 1048576
  rotate_left
  · rw [szI_no (by omega)]
    go_wp2
    go_ret
    exact ⟨rfl, hbw⟩
  rw [szI_yes c2]
  have hs : Small h0 := by unfold Small; omega
  have hkH : kHeap h0 ≤ 4194304 := by have := kAdd_bulk h0.cells; unfold kHeap; omega
  go_wp2_with fail
  refine (toHeap_any _ _ _ h0 (hh0'.below hbw) hs).mono ?_
  rintro e w1 ⟨vr0, rfl, hor0, hb1⟩
  replace a0 := keept a0 hb1
  replace a1 := keept a1 hb1
  have hzw1 := hb1.size
  replace hbw := hbw.trans (hb1.mono (by omega))
  clear hb1
  go_wp2_with fail
  refine (specSaveImage_any _ _ _ h0 x1 hor0.rd hx1).mono ?_
  rintro e w2 ⟨vW, rfl, hoW, hb2⟩
  clear hor0
  replace a0 := keept a0 hb2
  replace a1 := keept a1 hb2
  have hzw2 := hb2.size
  replace hbw := hbw.trans (hb2.mono (by omega))
  clear hb2
  obtain ⟨AW, kW, rfl, _⟩ := hoW.form
  go_wp2_with fail
  refine (toHeap_any _ _ _ h0 (hh0'.below hbw) hs).mono ?_
  rintro e w3 ⟨vx, rfl, hox, hb3⟩
  replace a0 := keept a0 hb3
  replace a1 := keept a1 hb3
  replace hoW := hoW.below hb3 (by omega)
  have hzw3 := hb3.size
  replace hbw := hbw.trans (hb3.mono (by omega))
  clear hb3
  obtain ⟨E, q, f, E', q', f', rfl, -, -⟩ := hox.rd
  go_wp2_with fail
  obtain ⟨b0, b1, _, _⟩ := blk2 (heap1 w3 (.cells #[.slice E q f, .slice E' q' f'] 30))
  have hbx := below_alloc w3 (.cells #[.slice E q f, .slice E' q' f'] 30)
  replace hox := hox.below hbx (Nat.le_refl _)
  replace a0 := keept a0 hbx
  replace a1 := keept a1 hbx
  replace hoW := hoW.below hbx (by omega)
  replace hbw := hbw.trans (hbx.mono (by omega))
  clear hbx
  go_wp2_with fail
  refine (implSaveImage_any _ _ _ h0 x1 hox.rd hx1).mono ?_
  rintro e w4 ⟨v, rfl, hoG, hb4⟩
  replace a0 := keept a0 hb4
  replace a1 := keept a1 hb4
  replace b0 := keept b0 hb4
  replace b1 := keept b1 hb4
  replace hoW := hoW.below hb4 (by first | omega | (simp; omega) | (simp; done))
  replace hox := hox.below hb4 (by first | omega | (simp; omega) | (simp; done))
  have hzw4 := hb4.size
  simp only [World.size_alloc] at hzw4
  replace hbw := hbw.trans (hb4.mono (by first | omega | (simp; omega) | (simp; done)))
  clear hb4
  simp only [World.size_alloc] at hoG
  have hlen := mSaveImage_len h0 x1
  obtain ⟨AG, kG, rfl, _⟩ := hoG.form
  go_wp2_with fail
  refine (eqInts_any _ _ _ _ _ _ _ _ _ _ hoG.rdI hoW.rdI).mono ?_
  rintro e w5 ⟨rfl, hb5⟩
  replace a0 := keept a0 hb5
  replace a1 := keept a1 hb5
  replace b0 := keept b0 hb5
  replace b1 := keept b1 hb5
  replace hoW := hoW.below hb5 (by omega)
  replace hox := hox.below hb5 (by omega)
  replace hoG := hoG.below hb5 (by omega)
  have hzw5 := hb5.size
  replace hbw := hbw.trans (hb5.mono (by omega))
  clear hb5
  have hod := hox.below (Below.refl w5.heap.size w5).drew (by omega)
  go_wp2_with fail
  go_region_held3 (fun w' => w'.cell? ⟨w.heap.size, 0, none⟩ = some (.slice D m d) ∧ w'.cell? ⟨w.heap.size, 1, none⟩ = some (.slice D' m' d') ∧
      w'.cell? ⟨w3.heap.size, 0, none⟩ = some (.slice E q f) ∧ w'.cell? ⟨w3.heap.size, 1, none⟩ = some (.slice E' q' f'))
    (first | go_keep | (exact ⟨keepd a0 hp, keepd a1 hp, keepd b0 hp, keepd b1 hp⟩) | (exact ⟨keept (keepd a0 hp) hq, keept (keepd a1 hp) hq, keept (keepd b0 hp) hq, keept (keepd b1 hp) hq⟩))
    (first
      | (go_at_call 17; refine (toHeap_any _ _ _ h0 (hh0'.below hbw.drew) hs).mono ?_; rintro e wp ⟨vp, rfl, hop, hp⟩)
      | (go_at_call 20; refine (eqHeap_any _ _ _ _ _ h0 ((hod.below hp (by simp; omega)).rd) hop.rd).mono ?_; rintro e wq ⟨rfl, hq⟩))
  have hbR := (Below.refl w5.heap.size w5).drew.trans ((hp.trans (hq.mono hp.size)).mono (by simp))
  clear hod hop hp hq
  replace a0 := keept a0 hbR
  replace a1 := keept a1 hbR
  replace b0 := keept b0 hbR
  replace b1 := keept b1 hbR
  replace hoW := hoW.below hbR (by omega)
  replace hox := hox.below hbR (by omega)
  replace hoG := hoG.below hbR (by omega)
  have hzwq := hbR.size
  replace hbw := hbw.trans (hbR.mono (by omega))
  clear hbR
  go_wp2_with fail
  refine (markHeap_any _ _ _ _ h0 (1) hox (by omega) (by omega) (by omega)).mono ?_
  rintro e w6 ⟨rfl, -, hO⟩
  clear b0 b1 hox
  replace a0 := keepo a0 hO (by show w.heap.size < _; omega) (by show w.heap.size < _; omega)
  replace a1 := keepo a1 hO (by show w.heap.size < _; omega) (by show w.heap.size < _; omega)
  replace hoW := hoW.only hO (by omega)
  replace hoG := hoG.only hO (by omega)
  replace hbw := hbw.trans ((hO.below (by omega)).mono (by omega))
  have hzw6 := hO.size
  clear hO
  go_wp2_with fail
  refine (eqInts_any _ _ _ _ _ _ _ _ _ _ hoG.rdI hoW.rdI).mono ?_
  rintro e w7 ⟨rfl, hb7⟩
  replace a0 := keept a0 hb7
  replace a1 := keept a1 hb7
  replace hoW := hoW.below hb7 (by omega)
  replace hoG := hoG.below hb7 (by omega)
  have hzw7 := hb7.size
  replace hbw := hbw.trans (hb7.mono (by omega))
  clear hb7
  go_wp2_with fail
  refine (markInts_any _ _ _ _ _ 1 hoG (by omega) (by omega)).mono ?_
  rintro e w8 ⟨rfl, hoM, hg⟩
  have hO := Only.grownI hoG hg
  clear hg hoG
  replace a0 := keepo a0 hO (by show w.heap.size < _; omega) (by show w.heap.size < _; omega)
  replace a1 := keepo a1 hO (by show w.heap.size < _; omega) (by show w.heap.size < _; omega)
  replace hoW := hoW.only hO (by omega)
  replace hbw := hbw.trans ((hO.below (by omega)).mono (by omega))
  have hzw8 := hO.size
  clear hO
  go_wp2_with fail
  refine (heldInts_any _ _ _ _ _ 1 _ hoM.rdI (by omega) (by omega)).mono ?_
  rintro e wh ⟨rfl, rfl⟩
  go_wp2_with fail
  refine (toHeap_any _ _ _ h0 (hh0'.below hbw) hs).mono ?_
  rintro e w9 ⟨vs0, rfl, hos0, hb9⟩
  replace a0 := keept a0 hb9
  replace a1 := keept a1 hb9
  replace hoW := hoW.below hb9 (by omega)
  replace hoM := hoM.below hb9 (by omega)
  have hzw9 := hb9.size
  replace hbw := hbw.trans (hb9.mono (by omega))
  clear hb9
  go_wp2_with fail
  refine (implSaveImage_any _ _ _ h0 x1 hos0.rd hx1).mono ?_
  rintro e w10 ⟨v, rfl, hoH, hb10⟩
  clear hos0
  replace a0 := keept a0 hb10
  replace a1 := keept a1 hb10
  replace hoW := hoW.below hb10 (by omega)
  replace hoM := hoM.below hb10 (by omega)
  have hzw10 := hb10.size
  replace hbw := hbw.trans (hb10.mono (by omega))
  clear hb10
  obtain ⟨AH, kH, rfl, _⟩ := hoH.form
  go_wp2_with fail
  refine (eqInts_any _ _ _ _ _ _ _ _ _ _ hoH.rdI hoW.rdI).mono ?_
  rintro e w11 ⟨rfl, hb11⟩
  replace a0 := keept a0 hb11
  replace a1 := keept a1 hb11
  replace hoW := hoW.below hb11 (by omega)
  replace hoM := hoM.below hb11 (by omega)
  replace hoH := hoH.below hb11 (by omega)
  have hzw11 := hb11.size
  replace hbw := hbw.trans (hb11.mono (by omega))
  clear hb11
  go_wp2_with fail
  refine (heldInts_any _ _ _ _ _ 1 _ hoM.rdI (by omega) (by omega)).mono ?_
  rintro e wh ⟨rfl, rfl⟩
  go_wp2
  go_ret
  exact ⟨rfl, hbw⟩
end Go.Proofs.Yteflbjchnfebaaa
