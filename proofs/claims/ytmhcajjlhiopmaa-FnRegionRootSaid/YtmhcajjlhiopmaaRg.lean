/- RegionsValid, the program's and the reference's: both return mRegionsValid, for every heap and list that can be read. -/
import Derived.Test.YtmhcajjlhiopmaaHvS
namespace Go.Proofs.Ytmhcajjlhiopmaa
open Go.RowKit
theorem isRegion_yes (r : Int) (w : World) (h1 : 0 ≤ r) (h2 : r ≤ 5) : Calls Try.prog 37 #[.int .i64 r] w fun e w' => e = .returned (.bool true) ∧ w' = w := by
  go_enter Try.func37, Try.ntmps37
  go_wp2
  go_ret
  exact ⟨rfl, rfl⟩
theorem isRegion_no (r : Int) (w : World) (h1 : r < 0 ∨ 5 < r) : Calls Try.prog 37 #[.int .i64 r] w fun e w' => e = .returned (.bool false) ∧ w' = w := by
  by_cases h : r < 0
  · go_enter Try.func37, Try.ntmps37
    go_wp2
    go_ret
    exact ⟨rfl, rfl⟩
  · have h2 : 5 < r := by omega
    clear h1
    go_enter Try.func37, Try.ntmps37
    go_wp2
    go_ret
    exact ⟨ret_b (by simp <;> omega), rfl⟩

def rgRef (rs : List Int) (r x : Int) : Bool := decide (x < 0) || decide (rs.getD x.toNat 0 ≤ r)
def rgAt (cs : List Cel) (rs : List Int) (k : Nat) : Bool :=
  (decide (0 ≤ rs.getD k 0) && decide (rs.getD k 0 ≤ 5)) && ((cs.getD k noCel).used || rs.getD k 0 == 0) && (cs.getD k noCel).refs.all (rgRef rs (rs.getD k 0))
def mRegionsValid (h : Hp) (rs : List Int) : Bool := heapOk h && decide (rs.length = h.cells.length) && (List.range h.cells.length).all (rgAt h.cells rs)
section
variable {cs : List Cel} {rs : List Int} {k : Nat} {l : Cel} {r : Int} {h : Hp}
theorem rgAt_eq (hl : Hid (cs[k]? = some l)) (hr : Hid (rs[k]? = some r)) : rgAt cs rs k = ((decide (0 ≤ r) && decide (r ≤ 5)) && (l.used || r == 0) && l.refs.all (rgRef rs r)) := by
  unfold rgAt; rw [getD_of hl, getD_of hr]
theorem rgAt_no1 (hl : Hid (cs[k]? = some l)) (hr : Hid (rs[k]? = some r)) (h : r < 0 ∨ 5 < r) : rgAt cs rs k = false := by rw [rgAt_eq hl hr]; simp; intros; omega
theorem rgAt_no2 (hl : Hid (cs[k]? = some l)) (hr : Hid (rs[k]? = some r)) (h : l.used = false) (h0 : r ≠ 0) : rgAt cs rs k = false := by rw [rgAt_eq hl hr]; simp [h, h0]
theorem rgAt_mid (hl : Hid (cs[k]? = some l)) (hr : Hid (rs[k]? = some r)) (h0 : 0 ≤ r) (h1 : r ≤ 5) (h : l.used = true ∨ r = 0) : rgAt cs rs k = l.refs.all (rgRef rs r) := by
  rw [rgAt_eq hl hr]; rcases h with h | h <;> simp [h0, h1, h]
theorem mRegions_no1 (h1 : heapOk h = false) : mRegionsValid h rs = false := by simp [mRegionsValid, h1]
theorem mRegions_no2 (h1 : rs.length ≠ h.cells.length) : mRegionsValid h rs = false := by simp [mRegionsValid, h1]
theorem mRegions_no3 (hk : k < h.cells.length) (h1 : rgAt h.cells rs k = false) : mRegionsValid h rs = false := by unfold mRegionsValid; rw [range_all_no hk h1, Bool.and_false]
theorem mRegions_yes (h0 : heapOk h = true) (h2 : rs.length = h.cells.length) (h1 : (List.range h.cells.length).all (rgAt h.cells rs) = true) : mRegionsValid h rs = true := by unfold mRegionsValid; rw [h0, h1]; simp [h2]
theorem rgRef_neg {x : Int} (hx : x < 0) : rgRef rs r x = true := by simp [rgRef, hx]
theorem rgRef_at {q : Nat} {y : Int} (hy : Hid (rs[q]? = some y)) : rgRef rs r (q : Int) = decide (y ≤ r) := by
  unfold rgRef; rw [Int.toNat_natCast, getD_of hy]; simp; omega
theorem leads_range {x : Int} (h : leadsB cs x = true) : x < 0 ∨ (0 ≤ x ∧ x < cs.length) := by
  simp [leadsB] at h; omega
theorem heapOk_refs (h0 : heapOk h = true) (hl : Hid (h.cells[k]? = some l)) {j : Nat} {x : Int} (hx : Hid (l.refs[j]? = some x)) : x < 0 ∨ (0 ≤ x ∧ x < h.cells.length) := by
  have hc : cellOk h.cells l = true := by
    simp only [heapOk, Bool.and_eq_true, List.all_eq_true] at h0
    exact h0.1.2 l (List.mem_of_getElem? hl.out)
  unfold cellOk at hc
  split at hc
  · simp only [Bool.and_eq_true, List.all_eq_true] at hc
    exact leads_range (hc.1 x (List.mem_of_getElem? hx.out))
  · simp only [Bool.and_eq_true, decide_eq_true_eq] at hc
    have := (List.getElem?_eq_some_iff.1 hx.out).1
    omega
theorem heapOk_roots (h0 : heapOk h = true) {j : Nat} {x : Int} (hx : Hid (h.roots[j]? = some x)) : x < 0 ∨ (0 ≤ x ∧ x < h.cells.length) := by
  simp only [heapOk, Bool.and_eq_true, List.all_eq_true] at h0
  exact leads_range (h0.2 x (List.mem_of_getElem? hx.out))
end

set_option maxHeartbeats 3200000 in
theorem implRegionsValid_any (w : World) (B B' : Nat) (v : Value) (h : Hp) (A : Option Addr) (n c : Nat) (rs : List Int) (hh : RdH w B v h) (hr : RdI w B' A n c rs) :
    Calls Try.prog 14 #[v, .slice A n c] w fun e w' => e = .returned (.bool (mRegionsValid h rs)) ∧ Below w.heap.size w w' := by
  have hr := hr.top
  have hh' := hh.top
  obtain ⟨D, m, d, D', m', d', rfl, hC, hR⟩ := hh.top
  have hm := hr.mx; have hcap := hr.cap
  have hm1 := hC.mx; have hcap1 := hC.cap
  have l1 := RdI.le1 hr; have l2 := RdI.le2 hr
  have l3 := hC.le1; have l4 := hC.le2
  unfold maxLen at hm hm1
  go_enter Try.func14, Try.ntmps14
  go_wp2_with fail
  refine (heapValid_any _ _ _ h (hh'.below (below_alloc _ _))).mono ?_
  rintro e w1 ⟨rfl, hb⟩
  obtain ⟨a0, a1, hbw, hz⟩ := box2 (hb.mono (by simp))
  cases hy : heapOk h
  · have HF := Go.Lib.hid (mRegions_no1 (rs := rs) hy)
    clear hy
    go_wp2
    go_ret
    exact ⟨ret_b HF.out.symm, hbw⟩
  have HY := Go.Lib.hid hy
  clear hy
  by_cases hnm : n = m
  · subst hnm
    go_wp2_with fail
    go_loopw [23] (fun i wr => ∃ k : Nat, i = .int .i64 k ∧ k ≤ n ∧ (List.range k).all (rgAt h.cells rs) = true ∧ Below (w.heap.size + 1) (w.alloc (.cells #[.slice D n d, .slice D' m' d'] 26)) wr) (fun i _ => n - (intOf i).toNat)
    case atStart => exact ⟨0, rfl, Nat.zero_le _, by simp, hb.mono (by simp)⟩
    case round =>
      clear a0 a1 hbw hz
      obtain ⟨k, rfl, hk, hall, hb⟩ := hrel
      obtain ⟨a0, a1, hbw, hz⟩ := box2 hb
      by_cases hlt : k < n
      · obtain ⟨b, o, l, A2, n2, c2, rfl, hbb, hx, g1, g2, g3, hrf⟩ := (hC.below hbw).at_ hlt
        obtain ⟨b2, o2, r, rfl, hbb2, hx2, g4⟩ := RdI.at_ (hr.below hbw) hlt
        have hbb' : b < wr.heap.size := by omega
        have hbb2' : b2 < wr.heap.size := by omega
        have m1 := RdI.le1 hrf; have m2 := RdI.le2 hrf
        have m3 := hrf.mx; have m4 := hrf.cap
        unfold maxLen at m3
        have i1 : (0 : Int) ≤ (k : Int) := by omega
        have i2 : (k : Int) < (n : Int) := by omega
        by_cases c1 : r < 0 ∨ 5 < r
        · have HF := Go.Lib.hid (mRegions_no3 (by omega : k < h.cells.length) (rgAt_no1 hx hx2 c1))
          go_wp2_with fail
          refine (isRegion_no _ _ c1).mono ?_
          rintro e w2 ⟨rfl, hw2⟩
          subst hw2
          go_wp2
          go_ret
          exact ⟨ret_b HF.out.symm, hbw.alloc (by omega) _⟩
        have k3 : (0 : Int) ≤ r := by omega
        have k4 : r ≤ 5 := by omega
        clear c1
        by_cases c3 : l.used = false ∧ r ≠ 0
        · obtain ⟨c4, c5⟩ := c3
          have HF := Go.Lib.hid (mRegions_no3 (by omega : k < h.cells.length) (rgAt_no2 hx hx2 c4 c5))
          rw [c4] at g1
          have k5 : (r != 0) = true := by simp [c5]
          clear c4 c5
          go_wp2_with fail
          refine (isRegion_yes _ _ k3 k4).mono ?_
          rintro e w2 ⟨rfl, hw2⟩
          subst hw2
          go_wp2
          go_ret
          exact ⟨ret_b HF.out.symm, hbw.alloc (by omega) _⟩
        have hor : l.used = true ∨ (l.used = false ∧ r = 0) := by
          cases hu : l.used
          · exact .inr ⟨rfl, Classical.byContradiction fun h0 => c3 ⟨hu, h0⟩⟩
          · exact .inl rfl
        have HE := Go.Lib.hid (rgAt_mid hx hx2 k3 k4 (hor.imp id And.right))
        have hcase : l.used = true ∨ (l.used = false ∧ (r != 0) = false) := hor.imp id fun h => ⟨h.1, by simp [h.2]⟩
        clear c3 hor
        rcases hcase with hu | ⟨hu, k5⟩
        all_goals
          rw [hu] at g1
          clear hu
          go_wp2_with fail
          refine (isRegion_yes _ _ k3 k4).mono ?_
          rintro e w2 ⟨rfl, hw2⟩
          subst hw2
          go_wp2_with fail
          obtain ⟨wo, rfl⟩ : ∃ wo : World, wo = wr := ⟨_, rfl⟩
          clear a0 a1 g1 g2 g3 g4
          go_loopw [49] (fun i wr => ∃ j : Nat, i = .int .i64 j ∧ j ≤ n2 ∧ (l.refs.take j).all (rgRef rs r) = true ∧ Below (w.heap.size + 1) wo wr) (fun i _ => n2 - (intOf i).toNat)
          case atStart => exact ⟨0, rfl, Nat.zero_le _, by simp, (Below.refl _ _).alloc (by omega) _⟩
          case round =>
            obtain ⟨j, rfl, hj, hall2, hb2⟩ := hrel
            have hbw2 := hbw.trans (hb2.mono (by omega))
            have hz2 := hb2.size
            by_cases hlt2 : j < n2
            · obtain ⟨b3, o3, x, rfl, hbb3, hx3, g5⟩ := RdI.at_ (hrf.below (hb2.mono (by omega))) hlt2
              have hrange := heapOk_refs HY.out hx hx3
              have i3 : (0 : Int) ≤ (j : Int) := by omega
              have i4 : (j : Int) < (n2 : Int) := by omega
              by_cases c1 : x < 0
              · have hall' := all_succ hall2 hx3 (rgRef_neg (rs := rs) (r := r) c1)
                have hd : decide ((0 : Int) ≤ x) = false := decide_eq_false (by omega)
                clear hrange
                go_wp2_with fail
                go_quiet (fail)
                go_wp2
                go_roundw
                case rel => exact ⟨j + 1, by go_num, by omega, hall', below_drewN hb2 _⟩
                case measure => simp [intOf]; omega
              · obtain ⟨q, rfl⟩ := Int.eq_ofNat_of_zero_le (by omega : 0 ≤ x)
                have hq : q < n := by omega
                obtain ⟨b4, o4, y, e4, hbb4, hx4, g6⟩ := RdI.at_ (hr.below hbw2) hq
                obtain ⟨b5, o5, r', e5, hbb5, hx5, g7⟩ := RdI.at_ (hr.below hbw2) hlt
                obtain rfl := hid_inj hx2 hx5
                simp only [Option.some.injEq, Addr.mk.injEq, and_true] at e4 e5
                obtain ⟨rfl, rfl⟩ := e4
                obtain ⟨rfl, rfl⟩ := e5
                have e6 := rgRef_at (r := r) hx4
                have i5 : (0 : Int) ≤ (q : Int) := by omega
                have i6 : (q : Int) < (n : Int) := by omega
                clear hrange c1
                by_cases c2 : y ≤ r
                · rw [decide_eq_true c2] at e6
                  have hall' := all_succ hall2 hx3 e6
                  clear e6
                  go_wp2_with fail
                  go_quiet (fail)
                  go_wp2
                  go_roundw
                  case rel => exact ⟨j + 1, by go_num, by omega, hall', below_drewN hb2 _⟩
                  case measure => simp [intOf]; omega
                · rw [decide_eq_false c2] at e6
                  have HF : Hid (mRegionsValid h rs = false) := Go.Lib.hid (mRegions_no3 (by omega : k < h.cells.length) (HE.out.trans (all_no hx3 e6)))
                  clear e6
                  go_wp2_with fail
                  go_quiet (fail)
                  go_wp2
                  go_ret
                  exact ⟨ret_b HF.out.symm, below_drewN hbw2 _⟩
            · have hall' := range_all_succ hall (HE.out.trans (all_end hall2 (by omega)))
              clear hall hall2
              go_wp2
              go_roundw
              case rel => exact ⟨k + 1, by go_num, by omega, hall', hb.trans hb2⟩
              case measure => simp [intOf]; omega
      · obtain rfl : k = n := by omega
        obtain rfl : k = h.cells.length := by omega
        have HF := Go.Lib.hid (mRegions_yes HY.out (by omega) hall)
        clear hall
        go_wp2
        go_ret
        exact ⟨ret_b HF.out.symm, hbw⟩
  · have HF := Go.Lib.hid (mRegions_no2 (h := h) (rs := rs) (by omega))
    have k1 : ((n : Int) != (m : Int)) = true := by simp; omega
    clear hnm
    go_wp2
    go_ret
    exact ⟨ret_b HF.out.symm, hbw⟩

set_option maxHeartbeats 3200000 in
theorem specRegionsValid_any (w : World) (B B' : Nat) (v : Value) (h : Hp) (A : Option Addr) (n c : Nat) (rs : List Int) (hh : RdH w B v h) (hr : RdI w B' A n c rs) :
    Calls Try.prog 64 #[v, .slice A n c] w fun e w' => e = .returned (.bool (mRegionsValid h rs)) ∧ Below w.heap.size w w' := by
  have hr := hr.top
  have hh' := hh.top
  obtain ⟨D, m, d, D', m', d', rfl, hC, hR⟩ := hh.top
  have hm := hr.mx; have hcap := hr.cap
  have hm1 := hC.mx; have hcap1 := hC.cap
  have l1 := RdI.le1 hr; have l2 := RdI.le2 hr
  have l3 := hC.le1; have l4 := hC.le2
  unfold maxLen at hm hm1
  go_enter Try.func64, Try.ntmps64
  go_wp2_with fail
  refine (specHeapValid_any _ _ _ h (hh'.below (below_alloc _ _))).mono ?_
  rintro e w1 ⟨rfl, hb⟩
  obtain ⟨a0, a1, hbw, hz⟩ := box2 (hb.mono (by simp))
  cases hy : heapOk h
  · have HF := Go.Lib.hid (mRegions_no1 (rs := rs) hy)
    clear hy
    go_wp2
    go_ret
    exact ⟨ret_b HF.out.symm, hbw⟩
  have HY := Go.Lib.hid hy
  clear hy
  by_cases hnm : n = m
  · subst hnm
    go_wp2_with fail
    go_loopw [5] (fun i wr => ∃ k : Nat, i = .int .i64 k ∧ k ≤ n ∧ (List.range k).all (rgAt h.cells rs) = true ∧ Below (w.heap.size + 1) (w.alloc (.cells #[.slice D n d, .slice D' m' d'] 26)) wr) (fun i _ => n - (intOf i).toNat)
    case atStart => exact ⟨0, rfl, Nat.zero_le _, by simp, hb.mono (by simp)⟩
    case round =>
      clear a0 a1 hbw hz
      obtain ⟨k, rfl, hk, hall, hb⟩ := hrel
      obtain ⟨a0, a1, hbw, hz⟩ := box2 hb
      by_cases hlt : k < n
      · obtain ⟨b, o, l, A2, n2, c2, rfl, hbb, hx, g1, g2, g3, hrf⟩ := (hC.below hbw).at_ hlt
        obtain ⟨b2, o2, r, rfl, hbb2, hx2, g4⟩ := RdI.at_ (hr.below hbw) hlt
        have m1 := RdI.le1 hrf; have m2 := RdI.le2 hrf
        have m3 := hrf.mx; have m4 := hrf.cap
        unfold maxLen at m3
        have i1 : (0 : Int) ≤ (k : Int) := by omega
        have i2 : (k : Int) < (n : Int) := by omega
        by_cases c1 : r < 0 ∨ 5 < r
        · have HF := Go.Lib.hid (mRegions_no3 (by omega : k < h.cells.length) (rgAt_no1 hx hx2 c1))
          go_wp2_with fail
          refine (l1In_no _ _ _ _ c1).mono ?_
          rintro e w2 ⟨rfl, hw2⟩
          subst hw2
          go_wp2
          go_ret
          exact ⟨ret_b HF.out.symm, hbw⟩
        have k3 : (0 : Int) ≤ r := by omega
        have k4 : r ≤ 5 := by omega
        clear c1
        by_cases c3 : l.used = false ∧ r ≠ 0
        · obtain ⟨c4, c5⟩ := c3
          have HF := Go.Lib.hid (mRegions_no3 (by omega : k < h.cells.length) (rgAt_no2 hx hx2 c4 c5))
          rw [c4] at g1
          have k5 : (r != 0) = true := by simp [c5]
          clear c4 c5
          go_wp2_with fail
          refine (l1In_yes _ _ _ _ k3 k4).mono ?_
          rintro e w2 ⟨rfl, hw2⟩
          subst hw2
          go_wp2
          go_ret
          exact ⟨ret_b HF.out.symm, hbw⟩
        have hor : l.used = true ∨ (l.used = false ∧ r = 0) := by
          cases hu : l.used
          · exact .inr ⟨rfl, Classical.byContradiction fun h0 => c3 ⟨hu, h0⟩⟩
          · exact .inl rfl
        have HE := Go.Lib.hid (rgAt_mid hx hx2 k3 k4 (hor.imp id And.right))
        have hcase : l.used = true ∨ (l.used = false ∧ (r != 0) = false) := hor.imp id fun h => ⟨h.1, by simp [h.2]⟩
        clear c3 hor
        rcases hcase with hu | ⟨hu, k5⟩
        all_goals
          rw [hu] at g1
          clear hu
          go_wp2_with fail
          refine (l1In_yes _ _ _ _ k3 k4).mono ?_
          rintro e w2 ⟨rfl, hw2⟩
          subst hw2
          go_wp2_with fail
          obtain ⟨wo, rfl⟩ : ∃ wo : World, wo = w2 := ⟨_, rfl⟩
          have G3 := Go.Lib.hid g3
          clear a0 a1 g1 g2 g3 g4
          go_loopw [6] (fun i wr => ∃ j : Nat, i = .int .i64 j ∧ j ≤ n2 ∧ (l.refs.take j).all (rgRef rs r) = true ∧ Below (w.heap.size + 1) wo wr) (fun i _ => n2 - (intOf i).toNat)
          case atStart => exact ⟨0, rfl, Nat.zero_le _, by simp, Below.refl _ _⟩
          case round =>
            obtain ⟨j, rfl, hj, hall2, hb2⟩ := hrel
            have hbw2 := hbw.trans (hb2.mono (by omega))
            have hz2 := hb2.size
            obtain ⟨a0, a1, _, _⟩ := box2 (hb.trans hb2)
            have g3 := (hb2.cell (p := ⟨b, o + k * 3 + 2, none⟩) (by simp; omega)).trans G3.out
            by_cases hlt2 : j < n2
            · obtain ⟨b3, o3, x, rfl, hbb3, hx3, g5⟩ := RdI.at_ (hrf.below (hb2.mono (by omega))) hlt2
              have hrange := heapOk_refs HY.out hx hx3
              have i3 : (0 : Int) ≤ (j : Int) := by omega
              have i4 : (j : Int) < (n2 : Int) := by omega
              by_cases c1 : x < 0
              · have hall' := all_succ hall2 hx3 (rgRef_neg (rs := rs) (r := r) c1)
                have hd : decide ((0 : Int) ≤ x) = false := decide_eq_false (by omega)
                clear hrange
                go_wp2_with fail
                go_quiet (fail)
                go_wp2
                go_roundw
                case rel => exact ⟨j + 1, by go_num, by omega, hall', below_drewN hb2 _⟩
                case measure => simp [intOf]; omega
              · obtain ⟨q, rfl⟩ := Int.eq_ofNat_of_zero_le (by omega : 0 ≤ x)
                have hq : q < n := by omega
                obtain ⟨b4, o4, y, e4, hbb4, hx4, g6⟩ := RdI.at_ (hr.below hbw2) hq
                obtain ⟨b5, o5, r', e5, hbb5, hx5, g7⟩ := RdI.at_ (hr.below hbw2) hlt
                obtain rfl := hid_inj hx2 hx5
                simp only [Option.some.injEq, Addr.mk.injEq, and_true] at e4 e5
                obtain ⟨rfl, rfl⟩ := e4
                obtain ⟨rfl, rfl⟩ := e5
                have e6 := rgRef_at (r := r) hx4
                have i5 : (0 : Int) ≤ (q : Int) := by omega
                have i6 : (q : Int) < (n : Int) := by omega
                clear hrange c1
                by_cases c2 : y ≤ r
                · rw [decide_eq_true c2] at e6
                  have hall' := all_succ hall2 hx3 e6
                  clear e6
                  go_wp2_with fail
                  go_quiet (fail)
                  go_wp2
                  go_roundw
                  case rel => exact ⟨j + 1, by go_num, by omega, hall', below_drewN hb2 _⟩
                  case measure => simp [intOf]; omega
                · rw [decide_eq_false c2] at e6
                  have HF : Hid (mRegionsValid h rs = false) := Go.Lib.hid (mRegions_no3 (by omega : k < h.cells.length) (HE.out.trans (all_no hx3 e6)))
                  clear e6
                  go_wp2_with fail
                  go_quiet (fail)
                  go_wp2
                  go_ret
                  exact ⟨ret_b HF.out.symm, below_drewN hbw2 _⟩
            · have hall' := range_all_succ hall (HE.out.trans (all_end hall2 (by omega)))
              clear hall hall2
              go_wp2
              go_roundw
              case rel => exact ⟨k + 1, by go_num, by omega, hall', hb.trans hb2⟩
              case measure => simp [intOf]; omega
      · obtain rfl : k = n := by omega
        obtain rfl : k = h.cells.length := by omega
        have HF := Go.Lib.hid (mRegions_yes HY.out (by omega) hall)
        clear hall
        go_wp2
        go_ret
        exact ⟨ret_b HF.out.symm, hbw⟩
  · have HF := Go.Lib.hid (mRegions_no2 (h := h) (rs := rs) (by omega))
    have k1 : ((n : Int) != (m : Int)) = true := by simp; omega
    clear hnm
    go_wp2
    go_ret
    exact ⟨ret_b HF.out.symm, hbw⟩
end Go.Proofs.Ytmhcajjlhiopmaa
