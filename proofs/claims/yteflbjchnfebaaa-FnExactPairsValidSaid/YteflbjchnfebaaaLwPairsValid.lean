/- The law FnExactPairsValid returns true for every heap and list of pairs that can be read, and leaves them as they were. -/
import Derived.Test.YteflbjchnfebaaaPr
namespace Go.Proofs.Yteflbjchnfebaaa
open Go.RowKit
set_option maxHeartbeats 1600000 in
theorem lawPairsValid_any (w : World) {B B' : Nat} {v : Value} {h : Hp} {A : Option Addr} {n c : Nat} {ws : List (Int × Int)} (hh : RdH w B v h) (hr : RdP w B' A n c ws) :
    Calls Try.prog 6 #[v, .slice A n c] w fun e w' => e = .returned (.bool true) ∧ Below w.heap.size w w' := by
  have hr := hr.top
  have hh' := hh.top
  obtain ⟨D, m, d, D', m', d', rfl, hC, hR⟩ := hh.top
  have l1 := hr.le1; have l2 := hr.le2
  have hm : n ≤ maxLen := Nat.le_trans hr.cap hr.mx
  go_enter Try.func6, Try.ntmps6
  go_wp2_with fail
  refine (szHeap_any _ _ _ h _ (hh'.below (below_alloc _ _)) (by omega) (by omega)).mono ?_
  rintro e w1 ⟨rfl, hb⟩
  obtain ⟨a0, a1, hbw, hz⟩ := box2 (hb.mono (by simp))
  clear hb
  by_cases c2 : ((cellsBulk h.cells + h.roots.length : Nat) : Int) ≤ 1048576
  · have hs : Small h := by unfold Small; omega
    generalize cellsBulk h.cells + h.roots.length = T at c2 ⊢
    rw [szI_yes c2]
    go_wp2_with fail
    refine (szPairs_any A n c _ _ hm (by omega) (by omega)).mono ?_
    rintro e w1' ⟨rfl, rfl⟩
    by_cases c3 : (n : Int) ≤ 1048576 - (T : Int)
    rotate_left
    · rw [szI_no (by omega)]
      go_wp2
      go_ret
      exact ⟨rfl, hbw⟩
    rw [szI_yes c3]
    go_wp2_with fail
    refine (toHeap_any _ _ _ h (hh'.below hbw) hs).mono ?_
    rintro e w2 ⟨v2, rfl, ho2, hb2⟩
    replace a0 := keept a0 hb2
    replace a1 := keept a1 hb2
    replace hbw := hbw.trans (hb2.mono (by omega))
    have hz2 := hb2.size
    clear hb2
    go_wp2_with fail
    refine (toPairs_any _ _ A n c ws (hr.below hbw) (by omega)).mono ?_
    rintro e w3 ⟨v3, rfl, ho3, hb3⟩
    replace a0 := keept a0 hb3
    replace a1 := keept a1 hb3
    replace hbw := hbw.trans (hb3.mono (by omega))
    have hz3 := hb3.size
    obtain ⟨A3, k3, rfl, hr3⟩ := ho3.form
    go_wp2_with fail
    refine (specPairsValid_any _ _ _ v2 h A3 _ k3 ws (ho2.below hb3 (Nat.le_refl _)).rd hr3).mono ?_
    rintro e w4 ⟨rfl, hb4⟩
    clear ho2 ho3 hr3 hb3
    replace a0 := keept a0 hb4
    replace a1 := keept a1 hb4
    replace hbw := hbw.trans (hb4.mono (by omega))
    have hz4 := hb4.size
    clear hb4
    go_wp2_with fail
    refine (toHeap_any _ _ _ h (hh'.below hbw) hs).mono ?_
    rintro e w5 ⟨v5, rfl, ho5, hb5⟩
    replace a0 := keept a0 hb5
    replace a1 := keept a1 hb5
    replace hbw := hbw.trans (hb5.mono (by omega))
    have hz5 := hb5.size
    clear hb5
    obtain ⟨E, q, f, E', q', f', rfl, hC5, hR5⟩ := ho5.rd
    go_wp2_with fail
    obtain ⟨b0, b1, _, _⟩ := blk2 (heap1 w5 (.cells #[.slice E q f, .slice E' q' f'] 30))
    have ho6 := ho5.below ((Below.refl _ _).alloc (Nat.le_refl _) (.cells #[.slice E q f, .slice E' q' f'] 30)) (Nat.le_refl _)
    have hb6 := below_alloc w5 (.cells #[.slice E q f, .slice E' q' f'] 30)
    replace a0 := keept a0 hb6
    replace a1 := keept a1 hb6
    replace hbw := hbw.trans (hb6.mono (by omega))
    clear hb6 hC5 hR5 ho5
    refine (toPairs_any _ _ A n c ws (hr.below hbw) (by omega)).mono ?_
    rintro e w7 ⟨v7, rfl, ho7, hb7⟩
    replace a0 := keept a0 hb7
    replace a1 := keept a1 hb7
    replace b0 := keept b0 hb7
    replace b1 := keept b1 hb7
    have hz7 := hb7.size
    simp only [World.size_alloc] at hz7
    replace hbw := hbw.trans (hb7.mono (by simp; omega))
    replace ho6 := ho6.below hb7 (by simp)
    clear hb7
    obtain ⟨F, k7, rfl, hr7⟩ := ho7.form
    go_wp2_with fail
    refine (implPairsValid_any _ _ _ _ h F _ k7 ws ho6.rd hr7).mono ?_
    rintro e w8 ⟨rfl, hb8⟩
    replace a0 := keept a0 hb8
    replace a1 := keept a1 hb8
    replace b0 := keept b0 hb8
    replace b1 := keept b1 hb8
    have hz8 := hb8.size
    replace hbw := hbw.trans (hb8.mono (by omega))
    replace ho6 := ho6.below hb8 (by omega)
    replace hr7 := hr7.below hb8
    clear hb8
    have ho6d := ho6.below (Below.refl w8.heap.size w8).drew (by omega)
    go_wp2_with fail
    go_region_held3 (fun w' => w'.cell? ⟨w.heap.size, 0, none⟩ = some (.slice D m d) ∧ w'.cell? ⟨w.heap.size, 1, none⟩ = some (.slice D' m' d') ∧
        w'.cell? ⟨w5.heap.size, 0, none⟩ = some (.slice E q f) ∧ w'.cell? ⟨w5.heap.size, 1, none⟩ = some (.slice E' q' f'))
      (first | go_keep | (exact ⟨keepd a0 hb9, keepd a1 hb9, keepd b0 hb9, keepd b1 hb9⟩) | (exact ⟨keept (keepd a0 hb9) hb10, keept (keepd a1 hb9) hb10, keept (keepd b0 hb9) hb10, keept (keepd b1 hb9) hb10⟩))
      (first
        | (go_at_call 17; refine (toHeap_any _ _ _ h (hh'.below hbw.drew) hs).mono ?_; rintro e w9 ⟨v9, rfl, ho9, hb9⟩)
        | (go_at_call 20; refine (eqHeap_any _ _ _ _ _ h ((ho6d.below hb9 (by simp; omega)).rd) ho9.rd).mono ?_; rintro e w10 ⟨rfl, hb10⟩))
    replace hbw := hbw.drew.trans ((hb9.trans (hb10.mono hb9.size)).mono (by simp; omega))
    have hz9 := hb9.size
    have hz10 := hb10.size
    simp only [World.size_drew] at hz9
    replace hr7 := (hr7.below (Below.refl _ _).drew).below ((hb9.trans (hb10.mono hb9.size)).mono (by simp; omega))
    clear hb9 hb10 ho6 ho6d ho9 a0 a1 b0 b1
    go_wp2_with fail
    refine (toPairs_any _ _ A n c ws (hr.below hbw) (by omega)).mono ?_
    rintro e w11 ⟨v11, rfl, ho11, hb11⟩
    obtain ⟨G, k11, rfl, hr11⟩ := ho11.form
    have hz11 := hb11.size
    replace hbw := hbw.trans (hb11.mono (by omega))
    go_wp2_with fail
    refine (eqPairs_any _ _ _ F G _ _ k7 k11 ws (hr7.below (hb11.mono (by omega))) hr11).mono ?_
    rintro e w12 ⟨rfl, hb12⟩
    replace hbw := hbw.trans (hb12.mono (by omega))
    go_wp2
    go_ret
    exact ⟨rfl, hbw⟩
  · rw [szI_no (by omega)]
    go_wp2
    go_ret
    exact ⟨rfl, hbw⟩
end Go.Proofs.Yteflbjchnfebaaa
